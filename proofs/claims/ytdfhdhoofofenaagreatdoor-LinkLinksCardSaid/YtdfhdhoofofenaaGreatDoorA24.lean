import Derived.Test.YtdfhdhoofofenaaGreatDoorA19
import Derived.Lib.IndexLaws
import Derived.Lib.ParseIntBCases
import Derived.Lib.SmallJoins
import Derived.Test.YtdfhdhoofofenaaGreatDoorA23
set_option linter.unusedSimpArgs false
set_option linter.unusedVariables false
set_option maxRecDepth 20000
namespace Lx
open Go
open Lg (Tok Tree)
open Go.Proofs (Tryz.prog)
open Go.Proofs.Tryz
def orSX (A B : Spec) : Spec := fun ys bx Kr Kp => A ys bx Kr Kp ∨ B ys bx Kr Kp
theorem OK.orX {P : Program} {f : FuncId} {A B : Spec} (h1 : OK P f A) (h2 : OK P f B) : OK P f (orSX A B) where
 enters := h1.enters
 calls := fun ys bx Kr Kp h => h.elim (h1.calls ys bx Kr Kp) (h2.calls ys bx Kr Kp)
abbrev runsS : Spec := orSX (runS 32 (· != 10)) (orSX (runS 33 Lg.qqu) (runS 37 Lg.qqz))
theorem runs_OK : OK Tryz.prog 31 runsS := (run_OK 32 _ line_OK).orX ((run_OK 33 _ zje).orX (run_OK 37 _ within_OK))
def zzm (d : Nat) (xs : List Tok) : LV := match xs with
 | [] => .d (.imm (.slice none 0 0))
 | x :: l => .os d 4 (x :: l).length
def tokAr (d : Nat) (xs : List Tok) : Ar := match xs with
 | [] => nix
 | x :: l => put d (4, 65, (x :: l).map tokD) nix
@[push_cast] theorem tokLV_nil (d : Nat) : zzm d [] = .d (.imm (.slice none 0 0)) := (rfl)
@[push_cast] theorem tokLV_cons (d : Nat) (x : Tok) (l : List Tok) : zzm d (x :: l) = .os d 4 (l.length + 1) := (rfl)
@[push_cast] theorem tokAr_nil (d : Nat) : tokAr d [] = nix := (rfl)
@[push_cast] theorem tokAr_cons (d : Nat) (x : Tok) (l : List Tok) : tokAr d (x :: l) = put d (4, 65, (x :: l).map tokD) nix := (rfl)
theorem qx6 (d : Nat) (x : Tok) (l : List Tok) : zzm d (l ++ [x]) = .os d 4 (l.length + 1) := by
 cases l with
 | nil => rfl
 | cons y l => simp [zzm]
theorem qjt {d : Nat} {x : Tok} {l : List Tok} {f : Ar} (h : f d = some (4, 65, l.map tokD ++ [tokD x])) : subm f (tokAr d (l ++ [x])) := by
 have e : tokAr d (l ++ [x]) = put d (4, 65, l.map tokD ++ [tokD x]) nix := by
  cases l with
  | nil => rfl
  | cons y l => simp [tokAr]
 rw [e]; exact qza h qzb
def lexP (r : Except (Int × Int) (List Tok)) (f : List Tok → Prop) (g : Int → Int → Prop) : Prop := match r with
 | .ok xs => f xs
 | .error (a, c) => g a c
theorem qjb {l : Bs} {i : Nat} (h : i < l.length) (hb : (l[i] == 32 || l[i] == 10) = true) : Lg.lex i (l.drop i) = Lg.lex ((i + 1 : Nat) : Int) (l.drop (i + 1)) := by
 rw [List.drop_eq_getElem_cons h, Lg.lex, if_pos hb]; rfl
theorem qw6 {α : Type} (p : α → Bool) : ∀ l : List α, (l.takeWhile p).length ≤ l.length ∧ l.take (l.takeWhile p).length = l.takeWhile p ∧ l.drop (l.takeWhile p).length = l.dropWhile p
 | [] => by simp
 | x :: l => by
   obtain ⟨h1, h2, h3⟩ := qw6 p l
   by_cases h : p x = true
   · rw [List.takeWhile_cons_of_pos h, List.dropWhile_cons_of_pos h]
     simp only [List.length_cons, List.take_succ_cons, List.drop_succ_cons, h2, h3]
     exact ⟨by omega, trivial, trivial⟩
   · rw [List.takeWhile_cons_of_neg h, List.dropWhile_cons_of_neg h]
     simp
theorem zjd {α : Type} (p : α → Bool) (l : List α) : l.drop (l.takeWhile p).length = l.dropWhile p := (qw6 p l).2.2
theorem zku (p : UInt8 → Bool) (l : Bs) (i : Nat) : l.drop (runN p l i) = (l.drop i).dropWhile p := by
 unfold runN; rw [← List.drop_drop, zjd]
theorem qj2 {p : UInt8 → Bool} {l : Bs} {i : Nat} (h : i ≤ l.length) : runN p l i ≤ l.length := by
 have h1 := (qw6 p (l.drop i)).1
 unfold runN; simp at h1; omega
theorem qq2 (p : UInt8 → Bool) (l : Bs) (i : Nat) : (l.take (runN p l i)).drop i = (l.drop i).takeWhile p := by
 unfold runN
 rw [List.drop_take, Nat.add_sub_cancel_left]
 exact (qw6 p (l.drop i)).2.1
theorem zvo {l : Bs} {i : Nat} (h : i < l.length) (hb : (l[i] == 32 || l[i] == 10) = false) (h2 : (l[i] == 35) = true) :
  Lg.lex i (l.drop i) = Lg.lex ((runN (· != 10) l i : Nat) : Int) (l.drop (runN (· != 10) l i)) := by
 have h3 : l[i] = 35 := eq_of_beq h2
 rw [zku, qve h (by rw [h3]; rfl), List.drop_eq_getElem_cons h, Lg.lex, if_neg (by rw [hb]; decide), if_pos h2, List.dropWhile_cons, if_pos (by rw [h3]; rfl)]
 unfold runN
 push_cast
theorem zxx {l : Bs} {i : Nat} (h : i < l.length) (hb : (l[i] == 32 || l[i] == 10) = false) (h2 : (l[i] == 35) = false) :
  Lg.lex i (l.drop i) = match Lg.qvb i (l.drop i) with
   | .error e => .error (i, e)
   | .ok t => match Lg.lex (i + t.text.length) ((l.drop (i + 1)).drop (t.text.length - 1)) with
     | .error e => .error e
     | .ok ts => .ok (t :: ts) := by
 conv => lhs; rw [List.drop_eq_getElem_cons h, Lg.lex, if_neg (by rw [hb]; decide), if_neg (by rw [h2]; decide), ← List.drop_eq_getElem_cons h]
 rfl
theorem lex_end (l : Bs) : Lg.lex l.length (l.drop l.length) = .ok [⟨0, [], 0, l.length⟩] := by
 rw [List.drop_length, Lg.lex]
theorem dbyte (c : UInt8) : ((c.toNat : Int) == 32) = (c == 32) ∧ ((c.toNat : Int) == 10) = (c == 10) ∧ ((c.toNat : Int) == 35) = (c == 35) := by
 refine ⟨?_, ?_, ?_⟩
 all_goals
  rw [Bool.eq_iff_iff]
  simp only [beq_iff_eq]
  refine ⟨fun h => UInt8.toNat_inj.1 (Int.ofNat_inj.1 h), fun h => by rw [h]; rfl⟩
theorem tokAt_kind {p : Int} {l : Bs} {t : Tok} (h : Lg.qvb p l = .ok t) : t.kind ≠ 0 := by
 unfold Lg.qvb at h
 split at h
 · cases h
 · split at h
   · split at h
     · cases h
     · cases h; exact (by decide : (3 : Int) ≠ 0)
   · split at h
     · split at h
       · cases h
       · cases h; show (if _ then (2 : Int) else 1) ≠ 0; split <;> decide
     · split at h
       · cases h
       · cases h; exact (by decide : (4 : Int) ≠ 0)
theorem qx7 {p : UInt8 → Bool} {l : Bs} {i : Nat} (h : i < l.length) (hp : p l[i] = true) : i < runN p l i := by
 rw [qve h hp]; unfold runN; omega
theorem zjk (p : UInt8 → Bool) : ∀ l : Bs, (l.takeWhile p).all p = true
 | [] => rfl
 | x :: l => by
   rw [List.takeWhile_cons]
   split
   · rename_i h; rw [List.all_cons, h, zjk p l]; rfl
   · rfl
theorem qj1 (p : UInt8 → Bool) (l : Bs) (i : Nat) : runN p l i - i = ((l.drop i).takeWhile p).length := by unfold runN; omega
theorem hd48 {l : Bs} {i : Nat} (h : i < l.length) : (l[i]? == some 48) = (l[i] == 48) := by
 rw [List.getElem?_eq_getElem h, Bool.eq_iff_iff]; simp
theorem qkh {l : Bs} {i : Nat} (h : i < l.length) (hd : Lg.qqu l[i] = true) : Lg.qvb i (l.drop i) =
  if (decide (1099511627776 < Lg.dec ((l.take (runN Lg.qqu l i)).drop i)) || (decide (1 < runN Lg.qqu l i - i) && l[i]? == some 48) || Lg.qv8 (l.drop (runN Lg.qqu l i))) = true then .error 12
  else .ok ⟨3, (l.take (runN Lg.qqu l i)).drop i, Lg.dec ((l.take (runN Lg.qqu l i)).drop i), i⟩ := by
 rw [qq2, zku, qj1, hd48 h]
 unfold Lg.qvb
 rw [List.drop_eq_getElem_cons h]
 simp only [hd, if_true]
theorem zzj {c : UInt8} (h : Lg.qv7 c = true) : Lg.qqz c = true := by unfold Lg.qqz; rw [h]; rfl
theorem qjs {l : Bs} {i : Nat} (h : i < l.length) (hd : Lg.qqu l[i] = false) (hw : Lg.qv7 l[i] = true) : Lg.qvb i (l.drop i) =
  if 16 < runN Lg.qqz l i - i then .error 13
  else .ok ⟨if Lg.isKey ((l.take (runN Lg.qqz l i)).drop i) then 2 else 1, (l.take (runN Lg.qqz l i)).drop i, 0, i⟩ := by
 rw [qq2, qj1]
 unfold Lg.qvb
 rw [List.drop_eq_getElem_cons h]
 simp only [hd, hw, if_true, Bool.false_eq_true, if_false]
theorem qky {l : Bs} {i : Nat} (h : i < l.length) (hd : Lg.qqu l[i] = false) (hw : Lg.qv7 l[i] = false) : Lg.qvb i (l.drop i) =
  if Lg.sign (l.drop i) = [] then .error 11 else .ok ⟨4, Lg.sign (l.drop i), 0, i⟩ := by
 unfold Lg.qvb
 rw [List.drop_eq_getElem_cons h]
 simp only [hd, hw, Bool.false_eq_true, if_false]
theorem qw8 (l : Bs) : (Lg.sign l).length ≤ l.length := by
 have hp : ∀ p : Bs, p.isPrefixOf l = true → p.length ≤ l.length := fun p h => (List.isPrefixOf_iff_prefix.1 h).length_le
 unfold Lg.sign
 split
 · rename_i h; exact hp _ h
 · split
   · rename_i h; exact hp _ h
   · split
     · rename_i h; exact hp _ h
     · cases l with
       | nil => simp
       | cons b r => simp only; split <;> simp
theorem zjo {p : Int} {l : Bs} {t : Tok} (h : Lg.qvb p l = .ok t) : -9223372036854775807 ≤ t.num ∧ t.num ≤ 9223372036854775807 := by
 unfold Lg.qvb at h
 split at h
 · cases h
 · split at h
   · split at h
     · cases h
     · rename_i h1
       cases h
       simp only [Bool.or_eq_true, decide_eq_true_eq, not_or] at h1
       obtain ⟨⟨h1, _⟩, _⟩ := h1
       show -9223372036854775807 ≤ ((Lg.dec _ : Nat) : Int) ∧ ((Lg.dec _ : Nat) : Int) ≤ 9223372036854775807
       omega
   · split at h
     · split at h
       · cases h
       · cases h; exact ⟨(by decide : (-9223372036854775807 : Int) ≤ 0), (by decide : (0 : Int) ≤ 9223372036854775807)⟩
     · split at h
       · cases h
       · cases h; exact ⟨(by decide : (-9223372036854775807 : Int) ≤ 0), (by decide : (0 : Int) ≤ 9223372036854775807)⟩
theorem ends_cons {t : Tok} {ts : List Tok} (h1 : t.kind ≠ 0) (h2 : -9223372036854775807 ≤ t.num ∧ t.num ≤ 9223372036854775807) (h : Ends ts) : Ends (t :: ts) := by
 cases ts with
 | nil => exact h.elim
 | cons u us => exact ⟨h1, h2.1, h2.2, h⟩
theorem zzd : ∀ (n : Nat) (p : Int) (l : Bs), l.length ≤ n → ∀ ts, Lg.lex p l = .ok ts → Ends ts ∧ ts.length ≤ l.length + 1
 | n, p, [], _, ts, h => by
   rw [Lg.lex] at h; cases h; exact ⟨rfl, by simp⟩
 | 0, p, b :: r, hn, ts, h => by simp at hn
 | n + 1, p, b :: r, hn, ts, h => by
   simp only [List.length_cons] at hn
   rw [Lg.lex] at h
   split at h
   · obtain ⟨h1, h2⟩ := zzd n _ r (by omega) ts h
     exact ⟨h1, by simp only [List.length_cons]; omega⟩
   · split at h
     · have := Lg.qjn (· != 10) r
       obtain ⟨h1, h2⟩ := zzd n _ _ (by omega) ts h
       exact ⟨h1, by simp only [List.length_cons]; omega⟩
     · split at h
       · cases h
       · rename_i t ht
         split at h
         · cases h
         · rename_i ts' hts
           cases h
           obtain ⟨h1, h2⟩ := zzd n _ _ (by rw [List.length_drop]; omega) ts' hts
           rw [List.length_drop] at h2
           exact ⟨ends_cons (tokAt_kind ht) (zjo ht) h1, by simp only [List.length_cons]; omega⟩
theorem zx0 {l : Bs} {ts : List Tok} (hl : l.length ≤ 16384) (h : Lg.lex 0 l = .ok ts) : Good ts := by
 obtain ⟨h1, h2⟩ := zzd _ _ l (Nat.le_refl _) ts h
 exact ⟨h1, by omega⟩
def LexQ (l : Bs) (Kr : LV → Bx → Ar1 → Prop) (acc : List Tok) (i : Nat) : Prop :=
 lexP (Lg.lex i (l.drop i)) (fun xs => Kr (.tup [.d (.sl 4 ((acc ++ xs).map tokD) false), .d (.int .i64 0), .d (.int .i64 0)]) nix none) (fun a c => c ≠ 0 → Kr (.tup [.d (.sl 4 [] false), .d (.int .i64 a), .d (.int .i64 c)]) nix none)
section
variable {l : Bs} {Kr : LV → Bx → Ar1 → Prop} {acc : List Tok} {i : Nat}
theorem LexQ.blank (h : LexQ l Kr acc i) (hi : i < l.length) (hb : (l[i] == 32 || l[i] == 10) = true) : LexQ l Kr acc (i + 1) := by
 unfold LexQ at h; rw [qjb hi hb] at h; exact h
theorem LexQ.comment (h : LexQ l Kr acc i) (hi : i < l.length) (hb : (l[i] == 32 || l[i] == 10) = false) (h2 : (l[i] == 35) = true) : LexQ l Kr acc (runN (· != 10) l i) := by
 unfold LexQ at h; rw [zvo hi hb h2] at h; exact h
theorem LexQ.fin (h : LexQ l Kr acc l.length) : Kr (.tup [.d (.sl 4 (acc.map tokD ++ [tokD ⟨0, [], 0, l.length⟩]) false), .d (.int .i64 0), .d (.int .i64 0)]) nix none := by
 unfold LexQ at h; rw [lex_end] at h
 simp only [lexP, List.map_append] at h
 exact h
theorem LexQ.bad (h : LexQ l Kr acc i) (hi : i < l.length) (hb : (l[i] == 32 || l[i] == 10) = false) (h2 : (l[i] == 35) = false) {c : Int} (ht : Lg.qvb i (l.drop i) = .error c) (hc : c ≠ 0) :
  Kr (.tup [.d (.sl 4 [] false), .d (.int .i64 i), .d (.int .i64 c)]) nix none := by
 unfold LexQ at h; rw [zxx hi hb h2, ht] at h; exact h hc
theorem LexQ.more (h : LexQ l Kr acc i) (hi : i < l.length) (hb : (l[i] == 32 || l[i] == 10) = false) (h2 : (l[i] == 35) = false) {t : Tok} (ht : Lg.qvb i (l.drop i) = .ok t) (hl : 1 ≤ t.text.length) :
  LexQ l Kr (acc ++ [t]) (i + t.text.length) := by
 unfold LexQ at h ⊢
 rw [zxx hi hb h2, ht] at h
 simp only at h
 rw [List.drop_drop, show i + 1 + (t.text.length - 1) = i + t.text.length by omega] at h
 cases hx : Lg.lex (i + t.text.length : Int) (l.drop (i + t.text.length)) with
 | error p => obtain ⟨a, c⟩ := p; rw [hx] at h; rw [show ((i + t.text.length : Nat) : Int) = (i : Int) + t.text.length from rfl, hx]; exact h
 | ok xs =>
   rw [hx] at h
   rw [show ((i + t.text.length : Nat) : Int) = (i : Int) + t.text.length from rfl, hx]
   simp only [lexP, List.append_assoc, List.singleton_append] at h ⊢
   exact h
end
set_option maxHeartbeats 4000000 in
theorem toks_OK (hpi : OK Tryz.prog 64 pintS) (hidx : OK Tryz.prog 67 idxS) : OK Tryz.prog 10 toksS := by
 refine fn_OK' qzu (E := EV) (sp := spL [(31, runsS), (33, (qvm Lg.qqu)), (34, numberS), (35, (qvm Lg.qv7)), (36, wordS), (38, signS)]) qzt qzm (OKs.ok ⟨runs_OK, ⟨zje, ⟨(zvi hpi), ⟨zz1, ⟨word_OK, ⟨(sign_OK hidx), trivial⟩⟩⟩⟩⟩⟩) func10 rfl ntmps10 results10 call10 [] none ?_
 rintro ys bx Kr Kp ⟨l, rfl, hK0⟩
 refine ⟨[], rfl, trivial, by simp, ?_⟩
 unfold Lg.toks at hK0
 simp only [go_sem, push_cast, ↓reduceIte, reduceCtorEq, Nat.reduceEqDiff, Nat.reduceAdd, Nat.reduceSub, Nat.reduceMul, Nat.reduceLT, Nat.reduceLeDiff, Int.reduceLT, Int.reduceLE, Int.reduceToNat, Int.reduceAdd, Int.reduceSub, Int.reduceNeg, Nat.reduceBEq, Int.reduceEq, Int.reduceBEq, Nat.zero_add, Nat.add_zero, Nat.zero_le, Nat.succ_ne_zero]
 refine ⟨fun h => ?_, fun h => ?_⟩
 · rw [if_pos (by have := of_decide_eq_true h; omega)] at hK0
   exact ⟨_, .cons (.nil 4 false) (.cons (.rfl _) (.cons (.rfl _) .nil)), hK0 (by decide)⟩
 · have hl : l.length ≤ 16384 := by have := of_decide_eq_false h; omega
   rw [if_neg (by omega)] at hK0
   refine qzk (T := { t : List Tok × Nat // t.1.length ≤ t.2 ∧ t.2 ≤ l.length ∧ LexQ l Kr t.1 t.2 })
    (fun t => ⟨87, put 0 (.d (.st l)) (put 5 (zzm 75 t.1.1) (put 6 (.d (.int .i64 t.1.2)) nix)), nix, tokAr 75 t.1.1⟩) (fun t => l.length - t.1.2) ⟨([], 0), by simp, by omega, ?_⟩
    ⟨rfl, qza rfl (qza rfl (qza rfl qzb)), qzb, qzb⟩ ?_
   · show lexP (Lg.lex 0 l) _ _
     cases hx : Lg.lex 0 l with
     | error p => obtain ⟨a, c⟩ := p; rw [hx] at hK0; refine fun hc => hK0 hc
     | ok xs => rw [hx] at hK0; exact hK0 (zx0 hl hx)
   rintro ⟨⟨acc, i⟩, g1, g2, gK⟩
   have h1 : acc.length ≤ i := g1
   have h2 : i ≤ l.length := g2
   have hK : LexQ l Kr acc i := gK
   cases acc with
   | nil =>
     simp only [go_sem, push_cast, ↓reduceIte, reduceCtorEq, Nat.reduceEqDiff, Nat.reduceAdd, Nat.reduceSub, Nat.reduceMul, Nat.reduceLT, Nat.reduceLeDiff, Int.reduceLT, Int.reduceLE, Int.reduceToNat, Int.reduceAdd, Int.reduceSub, Int.reduceNeg, Nat.reduceBEq, Int.reduceEq, Int.reduceBEq, Nat.zero_add, Nat.add_zero, Nat.zero_le, Nat.succ_ne_zero]
     refine ⟨fun h => ?_, fun h => ?_⟩
     · have hi : i < l.length := by have := of_decide_eq_true h; omega
       refine ⟨by omega, by omega, qv9 (List.getElem?_eq_getElem (by simpa using hi)) ?_⟩
       obtain ⟨e1, e2, e3⟩ := dbyte l[i]
       simp only [Int.toNat_natCast, e1, e2, e3, go_sem, push_cast, ↓reduceIte, reduceCtorEq, Nat.reduceEqDiff, Nat.reduceAdd, Nat.reduceSub, Nat.reduceMul, Nat.reduceLT, Nat.reduceLeDiff, Int.reduceLT, Int.reduceLE, Int.reduceToNat, Int.reduceAdd, Int.reduceSub, Int.reduceNeg, Nat.reduceBEq, Int.reduceEq, Int.reduceBEq, Nat.zero_add, Nat.add_zero, Nat.zero_le, Nat.succ_ne_zero]
       refine ⟨fun hb1 => ⟨⟨by omega, by omega⟩, ⟨(([] : List Tok), i + 1), by simp only [List.length_nil, List.length_cons]; omega, hi, hK.blank hi (by simp [hb1])⟩, ⟨rfl, qza rfl (qza rfl (qza rfl qzb)), qzb, qzb⟩, by show l.length - (i + 1) < l.length - i; omega⟩,
        fun hb1 => ⟨fun hb2 => ⟨⟨by omega, by omega⟩, ⟨(([] : List Tok), i + 1), by simp only [List.length_nil, List.length_cons]; omega, hi, hK.blank hi (by simp [hb2])⟩, ⟨rfl, qza rfl (qza rfl (qza rfl qzb)), qzb, qzb⟩, by show l.length - (i + 1) < l.length - i; omega⟩, fun hb2 => ?_⟩⟩
       have hb : (l[i] == 32 || l[i] == 10) = false := by rw [hb1, hb2]; rfl
       refine ⟨fun h35 => ?_, fun h35 => ?_⟩
       · refine Or.inl ⟨l, i, rfl, h2, by omega, ?_⟩
         simp only [Int.toNat_natCast, go_sem, push_cast, ↓reduceIte, reduceCtorEq, Nat.reduceEqDiff, Nat.reduceAdd, Nat.reduceSub, Nat.reduceMul, Nat.reduceLT, Nat.reduceLeDiff, Int.reduceLT, Int.reduceLE, Int.reduceToNat, Int.reduceAdd, Int.reduceSub, Int.reduceNeg, Nat.reduceBEq, Int.reduceEq, Int.reduceBEq, Nat.zero_add, Nat.add_zero, Nat.zero_le, Nat.succ_ne_zero]
         refine ⟨⟨(([] : List Tok), runN (· != 10) l i), ?_, qj2 h2, hK.comment hi hb h35⟩, ⟨rfl, qza rfl (qza rfl (qza rfl qzb)), qzb, qzb⟩, ?_⟩
         · have := qx7 (p := (· != 10)) hi (by rw [eq_of_beq h35]; rfl); simp only [List.length_nil, List.length_cons] at h1 ⊢; omega
         · have := qx7 (p := (· != 10)) hi (by rw [eq_of_beq h35]; rfl); show l.length - runN (· != 10) l i < l.length - i; omega
       · refine ⟨l[i], rfl, ?_⟩
         simp only [Int.toNat_natCast, go_sem, push_cast, ↓reduceIte, reduceCtorEq, Nat.reduceEqDiff, Nat.reduceAdd, Nat.reduceSub, Nat.reduceMul, Nat.reduceLT, Nat.reduceLeDiff, Int.reduceLT, Int.reduceLE, Int.reduceToNat, Int.reduceAdd, Int.reduceSub, Int.reduceNeg, Nat.reduceBEq, Int.reduceEq, Int.reduceBEq, Nat.zero_add, Nat.add_zero, Nat.zero_le, Nat.succ_ne_zero]
         refine ⟨fun hd => ?_, fun hd => ?_⟩
         · refine Or.inr (Or.inl ⟨l, i, rfl, h2, by omega, ?_⟩)
           simp only [Int.toNat_natCast, go_sem, push_cast, ↓reduceIte, reduceCtorEq, Nat.reduceEqDiff, Nat.reduceAdd, Nat.reduceSub, Nat.reduceMul, Nat.reduceLT, Nat.reduceLeDiff, Int.reduceLT, Int.reduceLE, Int.reduceToNat, Int.reduceAdd, Int.reduceSub, Int.reduceNeg, Nat.reduceBEq, Int.reduceEq, Int.reduceBEq, Nat.zero_add, Nat.add_zero, Nat.zero_le, Nat.succ_ne_zero]
           have hj := qx7 hi hd
           have ht := qkh hi hd
           refine ⟨l, i, runN Lg.qqu l i, rfl, hj, qj2 h2, by omega, by rw [qq2]; exact zjk _ _, fun hc => ?_, fun hc => ?_⟩
           · rw [if_pos hc] at ht
             simp only [Int.toNat_natCast, go_sem, push_cast, ↓reduceIte, reduceCtorEq, Nat.reduceEqDiff, Nat.reduceAdd, Nat.reduceSub, Nat.reduceMul, Nat.reduceLT, Nat.reduceLeDiff, Int.reduceLT, Int.reduceLE, Int.reduceToNat, Int.reduceAdd, Int.reduceSub, Int.reduceNeg, Nat.reduceBEq, Int.reduceEq, Int.reduceBEq, Nat.zero_add, Nat.add_zero, Nat.zero_le, Nat.succ_ne_zero]
             exact ⟨fun _ => ⟨_, .cons (.nil 4 false) (.cons (.rfl _) (.cons (.rfl _) .nil)), hK.bad hi hb h35 ht (by decide)⟩, fun e => absurd e (by decide)⟩
           · rw [if_neg (by rw [hc]; decide)] at ht
             have hlen : ((l.take (runN Lg.qqu l i)).drop i).length = runN Lg.qqu l i - i := by rw [qq2, qj1]
             have hj2 := qj2 (p := Lg.qqu) h2
             have hK1 := hK.more hi hb h35 ht (by show 1 ≤ ((l.take (runN Lg.qqu l i)).drop i).length; omega)
             simp only [Int.toNat_natCast, go_sem, push_cast, ↓reduceIte, reduceCtorEq, Nat.reduceEqDiff, Nat.reduceAdd, Nat.reduceSub, Nat.reduceMul, Nat.reduceLT, Nat.reduceLeDiff, Int.reduceLT, Int.reduceLE, Int.reduceToNat, Int.reduceAdd, Int.reduceSub, Int.reduceNeg, Nat.reduceBEq, Int.reduceEq, Int.reduceBEq, Nat.zero_add, Nat.add_zero, Nat.zero_le, Nat.succ_ne_zero]
             refine ⟨fun e => absurd e (by decide), fun _ => ⟨by omega, ⟨(([] : List Tok) ++ [(⟨3, (l.take (runN Lg.qqu l i)).drop i, Lg.dec ((l.take (runN Lg.qqu l i)).drop i), i⟩ : Tok)], _), ?_, ?_, hK1⟩, ⟨rfl, qza rfl (qza ?_ (qza rfl qzb)), qzb, qjt (l := ([] : List Tok)) rfl⟩, ?_⟩⟩
             · show (([] : List Tok) ++ [(⟨3, (l.take (runN Lg.qqu l i)).drop i, Lg.dec ((l.take (runN Lg.qqu l i)).drop i), i⟩ : Tok)]).length ≤ i + ((l.take (runN Lg.qqu l i)).drop i).length; simp only [List.length_append, List.length_nil, List.length_cons] at h1 ⊢; omega
             · show i + ((l.take (runN Lg.qqu l i)).drop i).length ≤ l.length; omega
             · show _ = some (zzm 75 (([] : List Tok) ++ [_])); rw [qx6]; rfl
             · show l.length - (i + ((l.take (runN Lg.qqu l i)).drop i).length) < l.length - i; omega
         · refine ⟨l[i], rfl, ?_⟩
           simp only [Int.toNat_natCast, go_sem, push_cast, ↓reduceIte, reduceCtorEq, Nat.reduceEqDiff, Nat.reduceAdd, Nat.reduceSub, Nat.reduceMul, Nat.reduceLT, Nat.reduceLeDiff, Int.reduceLT, Int.reduceLE, Int.reduceToNat, Int.reduceAdd, Int.reduceSub, Int.reduceNeg, Nat.reduceBEq, Int.reduceEq, Int.reduceBEq, Nat.zero_add, Nat.add_zero, Nat.zero_le, Nat.succ_ne_zero]
           refine ⟨fun hw => ?_, fun hw => ?_⟩
           · refine Or.inr (Or.inr ⟨l, i, rfl, h2, by omega, ?_⟩)
             simp only [Int.toNat_natCast, go_sem, push_cast, ↓reduceIte, reduceCtorEq, Nat.reduceEqDiff, Nat.reduceAdd, Nat.reduceSub, Nat.reduceMul, Nat.reduceLT, Nat.reduceLeDiff, Int.reduceLT, Int.reduceLE, Int.reduceToNat, Int.reduceAdd, Int.reduceSub, Int.reduceNeg, Nat.reduceBEq, Int.reduceEq, Int.reduceBEq, Nat.zero_add, Nat.add_zero, Nat.zero_le, Nat.succ_ne_zero]
             have hj := qx7 hi (zzj hw)
             have hj2 := qj2 (p := Lg.qqz) h2
             have ht := qjs hi hd hw
             refine ⟨l, i, runN Lg.qqz l i, rfl, by omega, hj2, by omega, fun hc => ?_, fun hc => ?_⟩
             · rw [if_pos hc] at ht
               simp only [Int.toNat_natCast, go_sem, push_cast, ↓reduceIte, reduceCtorEq, Nat.reduceEqDiff, Nat.reduceAdd, Nat.reduceSub, Nat.reduceMul, Nat.reduceLT, Nat.reduceLeDiff, Int.reduceLT, Int.reduceLE, Int.reduceToNat, Int.reduceAdd, Int.reduceSub, Int.reduceNeg, Nat.reduceBEq, Int.reduceEq, Int.reduceBEq, Nat.zero_add, Nat.add_zero, Nat.zero_le, Nat.succ_ne_zero]
               exact ⟨fun _ => ⟨_, .cons (.nil 4 false) (.cons (.rfl _) (.cons (.rfl _) .nil)), hK.bad hi hb h35 ht (by decide)⟩, fun e => absurd e (by decide)⟩
             · rw [if_neg (by omega)] at ht
               have hlen : ((l.take (runN Lg.qqz l i)).drop i).length = runN Lg.qqz l i - i := by rw [qq2, qj1]
               have hK1 := hK.more hi hb h35 ht (by show 1 ≤ ((l.take (runN Lg.qqz l i)).drop i).length; omega)
               simp only [Int.toNat_natCast, go_sem, push_cast, ↓reduceIte, reduceCtorEq, Nat.reduceEqDiff, Nat.reduceAdd, Nat.reduceSub, Nat.reduceMul, Nat.reduceLT, Nat.reduceLeDiff, Int.reduceLT, Int.reduceLE, Int.reduceToNat, Int.reduceAdd, Int.reduceSub, Int.reduceNeg, Nat.reduceBEq, Int.reduceEq, Int.reduceBEq, Nat.zero_add, Nat.add_zero, Nat.zero_le, Nat.succ_ne_zero]
               refine ⟨fun e => absurd e (by decide), fun _ => ⟨by omega, ⟨(([] : List Tok) ++ [(⟨if Lg.isKey ((l.take (runN Lg.qqz l i)).drop i) then 2 else 1, (l.take (runN Lg.qqz l i)).drop i, 0, i⟩ : Tok)], _), ?_, ?_, hK1⟩, ⟨rfl, qza rfl (qza ?_ (qza rfl qzb)), qzb, qjt (l := ([] : List Tok)) rfl⟩, ?_⟩⟩
               · show (([] : List Tok) ++ [(⟨if Lg.isKey ((l.take (runN Lg.qqz l i)).drop i) then 2 else 1, (l.take (runN Lg.qqz l i)).drop i, 0, i⟩ : Tok)]).length ≤ i + ((l.take (runN Lg.qqz l i)).drop i).length; simp only [List.length_append, List.length_nil, List.length_cons] at h1 ⊢; omega
               · show i + ((l.take (runN Lg.qqz l i)).drop i).length ≤ l.length; omega
               · show _ = some (zzm 75 (([] : List Tok) ++ [_])); rw [qx6]; rfl
               · show l.length - (i + ((l.take (runN Lg.qqz l i)).drop i).length) < l.length - i; omega
           · have ht := qky hi hd hw
             refine ⟨by omega, by omega, l.drop i, rfl, ?_, ?_⟩
             · rw [List.drop_eq_getElem_cons hi]; exact List.cons_ne_nil _ _
             simp only [Int.toNat_natCast, go_sem, push_cast, ↓reduceIte, reduceCtorEq, Nat.reduceEqDiff, Nat.reduceAdd, Nat.reduceSub, Nat.reduceMul, Nat.reduceLT, Nat.reduceLeDiff, Int.reduceLT, Int.reduceLE, Int.reduceToNat, Int.reduceAdd, Int.reduceSub, Int.reduceNeg, Nat.reduceBEq, Int.reduceEq, Int.reduceBEq, Nat.zero_add, Nat.add_zero, Nat.zero_le, Nat.succ_ne_zero]
             refine ⟨fun hc => ?_, fun hc => ?_⟩
             · rw [if_pos (eq_of_beq hc)] at ht
               exact ⟨fun _ => ⟨_, .cons (.nil 4 false) (.cons (.rfl _) (.cons (.rfl _) .nil)), hK.bad hi hb h35 ht (by decide)⟩, fun e => absurd e (by decide)⟩
             · have hne : Lg.sign (l.drop i) ≠ [] := ne_of_beq_false hc
               rw [if_neg hne] at ht
               have hl1 : 1 ≤ (Lg.sign (l.drop i)).length := by
                cases e : Lg.sign (l.drop i) with
                | nil => exact absurd e hne
                | cons _ _ => simp
               have hl2 : i + (Lg.sign (l.drop i)).length ≤ l.length := by
                have := qw8 (l.drop i)
                rw [List.length_drop] at this
                omega
               have hK1 := hK.more hi hb h35 ht hl1
               refine ⟨fun e => absurd e (by decide), fun _ => ⟨by omega, ⟨(([] : List Tok) ++ [(⟨4, Lg.sign (l.drop i), 0, i⟩ : Tok)], _), ?_, ?_, hK1⟩, ⟨rfl, qza rfl (qza ?_ (qza rfl qzb)), qzb, qjt (l := ([] : List Tok)) rfl⟩, ?_⟩⟩
               · show (([] : List Tok) ++ [(⟨4, Lg.sign (l.drop i), 0, i⟩ : Tok)]).length ≤ i + (Lg.sign (l.drop i)).length; simp only [List.length_append, List.length_nil, List.length_cons] at h1 ⊢; omega
               · show i + (Lg.sign (l.drop i)).length ≤ l.length; omega
               · show _ = some (zzm 75 (([] : List Tok) ++ [_])); rw [qx6]; rfl
               · show l.length - (i + (Lg.sign (l.drop i)).length) < l.length - i; omega
     · have hi : i = l.length := by have := of_decide_eq_false h; omega
       subst hi
       exact ⟨_, .cons (.rfl _) (.cons (.rfl _) (.cons (.rfl _) .nil)), hK.fin⟩
   | cons y acc =>
     have h3 : acc.length + 1 ≤ i := h1
     simp only [go_sem, push_cast, ↓reduceIte, reduceCtorEq, Nat.reduceEqDiff, Nat.reduceAdd, Nat.reduceSub, Nat.reduceMul, Nat.reduceLT, Nat.reduceLeDiff, Int.reduceLT, Int.reduceLE, Int.reduceToNat, Int.reduceAdd, Int.reduceSub, Int.reduceNeg, Nat.reduceBEq, Int.reduceEq, Int.reduceBEq, Nat.zero_add, Nat.add_zero, Nat.zero_le, Nat.succ_ne_zero]
     refine ⟨fun h => ?_, fun h => ?_⟩
     · have hi : i < l.length := by have := of_decide_eq_true h; omega
       refine ⟨by omega, by omega, qv9 (List.getElem?_eq_getElem (by simpa using hi)) ?_⟩
       obtain ⟨e1, e2, e3⟩ := dbyte l[i]
       simp only [Int.toNat_natCast, e1, e2, e3, go_sem, push_cast, ↓reduceIte, reduceCtorEq, Nat.reduceEqDiff, Nat.reduceAdd, Nat.reduceSub, Nat.reduceMul, Nat.reduceLT, Nat.reduceLeDiff, Int.reduceLT, Int.reduceLE, Int.reduceToNat, Int.reduceAdd, Int.reduceSub, Int.reduceNeg, Nat.reduceBEq, Int.reduceEq, Int.reduceBEq, Nat.zero_add, Nat.add_zero, Nat.zero_le, Nat.succ_ne_zero]
       refine ⟨fun hb1 => ⟨⟨by omega, by omega⟩, ⟨((y :: acc), i + 1), by show acc.length + 1 ≤ i + 1; omega, hi, hK.blank hi (by simp [hb1])⟩, ⟨rfl, qza rfl (qza rfl (qza rfl qzb)), qzb, qza rfl qzb⟩, by show l.length - (i + 1) < l.length - i; omega⟩,
        fun hb1 => ⟨fun hb2 => ⟨⟨by omega, by omega⟩, ⟨((y :: acc), i + 1), by show acc.length + 1 ≤ i + 1; omega, hi, hK.blank hi (by simp [hb2])⟩, ⟨rfl, qza rfl (qza rfl (qza rfl qzb)), qzb, qza rfl qzb⟩, by show l.length - (i + 1) < l.length - i; omega⟩, fun hb2 => ?_⟩⟩
       have hb : (l[i] == 32 || l[i] == 10) = false := by rw [hb1, hb2]; rfl
       refine ⟨fun h35 => ?_, fun h35 => ?_⟩
       · refine Or.inl ⟨l, i, rfl, h2, by omega, ?_⟩
         simp only [Int.toNat_natCast, go_sem, push_cast, ↓reduceIte, reduceCtorEq, Nat.reduceEqDiff, Nat.reduceAdd, Nat.reduceSub, Nat.reduceMul, Nat.reduceLT, Nat.reduceLeDiff, Int.reduceLT, Int.reduceLE, Int.reduceToNat, Int.reduceAdd, Int.reduceSub, Int.reduceNeg, Nat.reduceBEq, Int.reduceEq, Int.reduceBEq, Nat.zero_add, Nat.add_zero, Nat.zero_le, Nat.succ_ne_zero]
         refine ⟨⟨((y :: acc), runN (· != 10) l i), ?_, qj2 h2, hK.comment hi hb h35⟩, ⟨rfl, qza rfl (qza rfl (qza rfl qzb)), qzb, qza rfl qzb⟩, ?_⟩
         · have := qx7 (p := (· != 10)) hi (by rw [eq_of_beq h35]; rfl); show acc.length + 1 ≤ _; omega
         · have := qx7 (p := (· != 10)) hi (by rw [eq_of_beq h35]; rfl); show l.length - runN (· != 10) l i < l.length - i; omega
       · refine ⟨l[i], rfl, ?_⟩
         simp only [Int.toNat_natCast, go_sem, push_cast, ↓reduceIte, reduceCtorEq, Nat.reduceEqDiff, Nat.reduceAdd, Nat.reduceSub, Nat.reduceMul, Nat.reduceLT, Nat.reduceLeDiff, Int.reduceLT, Int.reduceLE, Int.reduceToNat, Int.reduceAdd, Int.reduceSub, Int.reduceNeg, Nat.reduceBEq, Int.reduceEq, Int.reduceBEq, Nat.zero_add, Nat.add_zero, Nat.zero_le, Nat.succ_ne_zero]
         refine ⟨fun hd => ?_, fun hd => ?_⟩
         · refine Or.inr (Or.inl ⟨l, i, rfl, h2, by omega, ?_⟩)
           simp only [Int.toNat_natCast, go_sem, push_cast, ↓reduceIte, reduceCtorEq, Nat.reduceEqDiff, Nat.reduceAdd, Nat.reduceSub, Nat.reduceMul, Nat.reduceLT, Nat.reduceLeDiff, Int.reduceLT, Int.reduceLE, Int.reduceToNat, Int.reduceAdd, Int.reduceSub, Int.reduceNeg, Nat.reduceBEq, Int.reduceEq, Int.reduceBEq, Nat.zero_add, Nat.add_zero, Nat.zero_le, Nat.succ_ne_zero]
           have hj := qx7 hi hd
           have ht := qkh hi hd
           refine ⟨l, i, runN Lg.qqu l i, rfl, hj, qj2 h2, by omega, by rw [qq2]; exact zjk _ _, fun hc => ?_, fun hc => ?_⟩
           · rw [if_pos hc] at ht
             simp only [Int.toNat_natCast, go_sem, push_cast, ↓reduceIte, reduceCtorEq, Nat.reduceEqDiff, Nat.reduceAdd, Nat.reduceSub, Nat.reduceMul, Nat.reduceLT, Nat.reduceLeDiff, Int.reduceLT, Int.reduceLE, Int.reduceToNat, Int.reduceAdd, Int.reduceSub, Int.reduceNeg, Nat.reduceBEq, Int.reduceEq, Int.reduceBEq, Nat.zero_add, Nat.add_zero, Nat.zero_le, Nat.succ_ne_zero]
             exact ⟨fun _ => ⟨_, .cons (.nil 4 false) (.cons (.rfl _) (.cons (.rfl _) .nil)), hK.bad hi hb h35 ht (by decide)⟩, fun e => absurd e (by decide)⟩
           · rw [if_neg (by rw [hc]; decide)] at ht
             have hlen : ((l.take (runN Lg.qqu l i)).drop i).length = runN Lg.qqu l i - i := by rw [qq2, qj1]
             have hj2 := qj2 (p := Lg.qqu) h2
             have hK1 := hK.more hi hb h35 ht (by show 1 ≤ ((l.take (runN Lg.qqu l i)).drop i).length; omega)
             simp only [Int.toNat_natCast, go_sem, push_cast, ↓reduceIte, reduceCtorEq, Nat.reduceEqDiff, Nat.reduceAdd, Nat.reduceSub, Nat.reduceMul, Nat.reduceLT, Nat.reduceLeDiff, Int.reduceLT, Int.reduceLE, Int.reduceToNat, Int.reduceAdd, Int.reduceSub, Int.reduceNeg, Nat.reduceBEq, Int.reduceEq, Int.reduceBEq, Nat.zero_add, Nat.add_zero, Nat.zero_le, Nat.succ_ne_zero]
             refine ⟨fun e => absurd e (by decide), fun _ => ⟨by omega, by omega, by omega, ⟨((y :: acc) ++ [(⟨3, (l.take (runN Lg.qqu l i)).drop i, Lg.dec ((l.take (runN Lg.qqu l i)).drop i), i⟩ : Tok)], _), ?_, ?_, hK1⟩, ⟨rfl, qza rfl (qza ?_ (qza rfl qzb)), qzb, qjt (l := (y :: acc)) rfl⟩, ?_⟩⟩
             · show ((y :: acc) ++ [(⟨3, (l.take (runN Lg.qqu l i)).drop i, Lg.dec ((l.take (runN Lg.qqu l i)).drop i), i⟩ : Tok)]).length ≤ i + ((l.take (runN Lg.qqu l i)).drop i).length; simp only [List.length_append, List.length_nil, List.length_cons]; omega
             · show i + ((l.take (runN Lg.qqu l i)).drop i).length ≤ l.length; omega
             · show _ = some (zzm 75 ((y :: acc) ++ [_])); rw [qx6]; rfl
             · show l.length - (i + ((l.take (runN Lg.qqu l i)).drop i).length) < l.length - i; omega
         · refine ⟨l[i], rfl, ?_⟩
           simp only [Int.toNat_natCast, go_sem, push_cast, ↓reduceIte, reduceCtorEq, Nat.reduceEqDiff, Nat.reduceAdd, Nat.reduceSub, Nat.reduceMul, Nat.reduceLT, Nat.reduceLeDiff, Int.reduceLT, Int.reduceLE, Int.reduceToNat, Int.reduceAdd, Int.reduceSub, Int.reduceNeg, Nat.reduceBEq, Int.reduceEq, Int.reduceBEq, Nat.zero_add, Nat.add_zero, Nat.zero_le, Nat.succ_ne_zero]
           refine ⟨fun hw => ?_, fun hw => ?_⟩
           · refine Or.inr (Or.inr ⟨l, i, rfl, h2, by omega, ?_⟩)
             simp only [Int.toNat_natCast, go_sem, push_cast, ↓reduceIte, reduceCtorEq, Nat.reduceEqDiff, Nat.reduceAdd, Nat.reduceSub, Nat.reduceMul, Nat.reduceLT, Nat.reduceLeDiff, Int.reduceLT, Int.reduceLE, Int.reduceToNat, Int.reduceAdd, Int.reduceSub, Int.reduceNeg, Nat.reduceBEq, Int.reduceEq, Int.reduceBEq, Nat.zero_add, Nat.add_zero, Nat.zero_le, Nat.succ_ne_zero]
             have hj := qx7 hi (zzj hw)
             have hj2 := qj2 (p := Lg.qqz) h2
             have ht := qjs hi hd hw
             refine ⟨l, i, runN Lg.qqz l i, rfl, by omega, hj2, by omega, fun hc => ?_, fun hc => ?_⟩
             · rw [if_pos hc] at ht
               simp only [Int.toNat_natCast, go_sem, push_cast, ↓reduceIte, reduceCtorEq, Nat.reduceEqDiff, Nat.reduceAdd, Nat.reduceSub, Nat.reduceMul, Nat.reduceLT, Nat.reduceLeDiff, Int.reduceLT, Int.reduceLE, Int.reduceToNat, Int.reduceAdd, Int.reduceSub, Int.reduceNeg, Nat.reduceBEq, Int.reduceEq, Int.reduceBEq, Nat.zero_add, Nat.add_zero, Nat.zero_le, Nat.succ_ne_zero]
               exact ⟨fun _ => ⟨_, .cons (.nil 4 false) (.cons (.rfl _) (.cons (.rfl _) .nil)), hK.bad hi hb h35 ht (by decide)⟩, fun e => absurd e (by decide)⟩
             · rw [if_neg (by omega)] at ht
               have hlen : ((l.take (runN Lg.qqz l i)).drop i).length = runN Lg.qqz l i - i := by rw [qq2, qj1]
               have hK1 := hK.more hi hb h35 ht (by show 1 ≤ ((l.take (runN Lg.qqz l i)).drop i).length; omega)
               simp only [Int.toNat_natCast, go_sem, push_cast, ↓reduceIte, reduceCtorEq, Nat.reduceEqDiff, Nat.reduceAdd, Nat.reduceSub, Nat.reduceMul, Nat.reduceLT, Nat.reduceLeDiff, Int.reduceLT, Int.reduceLE, Int.reduceToNat, Int.reduceAdd, Int.reduceSub, Int.reduceNeg, Nat.reduceBEq, Int.reduceEq, Int.reduceBEq, Nat.zero_add, Nat.add_zero, Nat.zero_le, Nat.succ_ne_zero]
               refine ⟨fun e => absurd e (by decide), fun _ => ⟨by omega, by omega, by omega, ⟨((y :: acc) ++ [(⟨if Lg.isKey ((l.take (runN Lg.qqz l i)).drop i) then 2 else 1, (l.take (runN Lg.qqz l i)).drop i, 0, i⟩ : Tok)], _), ?_, ?_, hK1⟩, ⟨rfl, qza rfl (qza ?_ (qza rfl qzb)), qzb, qjt (l := (y :: acc)) rfl⟩, ?_⟩⟩
               · show ((y :: acc) ++ [(⟨if Lg.isKey ((l.take (runN Lg.qqz l i)).drop i) then 2 else 1, (l.take (runN Lg.qqz l i)).drop i, 0, i⟩ : Tok)]).length ≤ i + ((l.take (runN Lg.qqz l i)).drop i).length; simp only [List.length_append, List.length_nil, List.length_cons]; omega
               · show i + ((l.take (runN Lg.qqz l i)).drop i).length ≤ l.length; omega
               · show _ = some (zzm 75 ((y :: acc) ++ [_])); rw [qx6]; rfl
               · show l.length - (i + ((l.take (runN Lg.qqz l i)).drop i).length) < l.length - i; omega
           · have ht := qky hi hd hw
             refine ⟨by omega, by omega, l.drop i, rfl, ?_, ?_⟩
             · rw [List.drop_eq_getElem_cons hi]; exact List.cons_ne_nil _ _
             simp only [Int.toNat_natCast, go_sem, push_cast, ↓reduceIte, reduceCtorEq, Nat.reduceEqDiff, Nat.reduceAdd, Nat.reduceSub, Nat.reduceMul, Nat.reduceLT, Nat.reduceLeDiff, Int.reduceLT, Int.reduceLE, Int.reduceToNat, Int.reduceAdd, Int.reduceSub, Int.reduceNeg, Nat.reduceBEq, Int.reduceEq, Int.reduceBEq, Nat.zero_add, Nat.add_zero, Nat.zero_le, Nat.succ_ne_zero]
             refine ⟨fun hc => ?_, fun hc => ?_⟩
             · rw [if_pos (eq_of_beq hc)] at ht
               exact ⟨fun _ => ⟨_, .cons (.nil 4 false) (.cons (.rfl _) (.cons (.rfl _) .nil)), hK.bad hi hb h35 ht (by decide)⟩, fun e => absurd e (by decide)⟩
             · have hne : Lg.sign (l.drop i) ≠ [] := ne_of_beq_false hc
               rw [if_neg hne] at ht
               have hl1 : 1 ≤ (Lg.sign (l.drop i)).length := by
                cases e : Lg.sign (l.drop i) with
                | nil => exact absurd e hne
                | cons _ _ => simp
               have hl2 : i + (Lg.sign (l.drop i)).length ≤ l.length := by
                have := qw8 (l.drop i)
                rw [List.length_drop] at this
                omega
               have hK1 := hK.more hi hb h35 ht hl1
               refine ⟨fun e => absurd e (by decide), fun _ => ⟨by omega, by omega, by omega, ⟨((y :: acc) ++ [(⟨4, Lg.sign (l.drop i), 0, i⟩ : Tok)], _), ?_, ?_, hK1⟩, ⟨rfl, qza rfl (qza ?_ (qza rfl qzb)), qzb, qjt (l := (y :: acc)) rfl⟩, ?_⟩⟩
               · show ((y :: acc) ++ [(⟨4, Lg.sign (l.drop i), 0, i⟩ : Tok)]).length ≤ i + (Lg.sign (l.drop i)).length; simp only [List.length_append, List.length_nil, List.length_cons]; omega
               · show i + (Lg.sign (l.drop i)).length ≤ l.length; omega
               · show _ = some (zzm 75 ((y :: acc) ++ [_])); rw [qx6]; rfl
               · show l.length - (i + (Lg.sign (l.drop i)).length) < l.length - i; omega
     · have hi : i = l.length := by have := of_decide_eq_false h; omega
       subst hi
       exact ⟨by omega, by omega, by simp, _, .cons (.rfl _) (.cons (.rfl _) (.cons (.rfl _) .nil)), hK.fin⟩
open Go Go.RowKit
theorem block_lt' {w : World} {a : Addr} {v : Value} (h : w.cell? a = some v) : a.block < w.heap.size := by
 apply Classical.byContradiction
 intro hn
 unfold World.cell? at h
 rw [Array.getElem?_eq_none (by omega)] at h
 cases h
theorem Aft.below {g : Gh} {bx : Bx} {w w' : World} (h : Wd g bx nix w) (hB : Below w.heap.size w w') : Aft g bx w g nix none w' where
 Φ := Phi.le_refl _
 fr := ⟨hB.os, hB.tape, hB.output, hB.size, fun b hb _ => hB.block b hb⟩
 fix := fun _ _ _ e => Or.inl e
 wd := {
  box := fun k b e => by cases e
  arr := fun r sz ty xs e => by simp [ar0] at e
  len := fun r => by rw [h.len r]; simp [ar0, nix]
  fx := ⟨fun b o v e => by
   obtain ⟨h1, h2⟩ := h.fx.1 b o v e
   exact ⟨by rw [hB.cell (block_lt' h1)]; exact h1, h2⟩, h.fx.2⟩
  inj := fun k k' b b' e => by cases e
  inja := fun r r' a a' e => by simp [ar0] at e
  injb := fun k r b a e => by cases e
  outb := fun k b o e => by cases e
  outa := fun r a o e _ => by simp [ar0] at e }
 keys := fun k b e => by cases e
 arr := fun a e => by cases e
theorem qw4 (l : Bs) (c : UInt8) : 0 ≤ Lib.indexByte l c ↔ l.contains c = true := by
 rw [List.contains_iff_mem]
 constructor
 · intro h
   obtain ⟨o, ho⟩ := Int.eq_ofNat_of_zero_le h
   exact List.mem_of_getElem? (Lib.indexByte_some ho).1
 · intro h
   have := Lib.indexByte_ge l c
   rcases Nat.lt_or_ge 0 1 with _ | _
   · by_cases e : Lib.indexByte l c = -1
     · obtain ⟨k, hk⟩ := List.getElem?_of_mem h
       exact absurd hk (Lib.indexByte_none e k)
     · omega
   · omega
theorem idx_OK : OK Tryz.prog 67 idxS where
 enters := fun _ _ => rfl
 calls := by
  rintro ys bx Kr Kp ⟨l, c, rfl, hK⟩ g vs w hv hw
  rcases hv with _ | ⟨h1, _ | ⟨h2, _ | _⟩⟩
  rcases h1 with ⟨⟨⟩⟩
  rcases h2 with ⟨⟨⟩⟩
  refine (Go.Proofs.Tryz.strings_IndexByte ⟨l.toArray⟩ (c.toNat : Int) w).mono fun e w' he => ?_
  obtain ⟨rfl, rfl⟩ := he
  exact ⟨g, Or.inl ⟨_, _, nix, none, rfl, hK _ (by rw [show ((c.toNat : Int).toNat.toUInt8) = c by simp]; exact qw4 l c), .d (.int _ _), Aft.below hw (Below.refl _ _)⟩⟩
def qvk (acc : Nat) (l : Bs) : Nat := l.foldl (fun n b => n * 10 + (b.toNat - 48)) acc
theorem zxb : ∀ (l : Bs) (acc : Nat), acc ≤ qvk acc l
 | [], acc => Nat.le_refl _
 | b :: l, acc => by
   have := zxb l (acc * 10 + (b.toNat - 48))
   show acc ≤ qvk (acc * 10 + (b.toNat - 48)) l
   omega
theorem parseM : ∀ (l : Bs) (acc : Nat), l.all Lg.qqu = true →
  Lib.parseUintM 18446744073709551615 acc l = .ok (qvk acc l) ∨ (Lib.parseUintM 18446744073709551615 acc l = .range ∧ 9223372036854775807 < qvk acc l)
 | [], acc, _ => Or.inl rfl
 | b :: l, acc, h => by
   rw [List.all_cons, Bool.and_eq_true] at h
   have hd : 48 ≤ b.toNat ∧ b.toNat ≤ 57 := by
    have := h.1
    unfold Lg.qqu at this
    simpa using this
   have hge := zxb l (acc * 10 + (b.toNat - 48))
   rw [Lib.parseUintM, if_pos hd]
   show _ = Lib.NumEnd.ok (qvk (acc * 10 + (b.toNat - 48)) l) ∨ _ ∧ _ < qvk (acc * 10 + (b.toNat - 48)) l
   split
   · exact Or.inr ⟨rfl, by omega⟩
   · split
     · exact Or.inr ⟨rfl, by omega⟩
     · exact parseM l _ h.2
theorem parse64 {l : Bs} (hne : l ≠ []) (h : l.all Lg.qqu = true) : Lib.parseIntB 64 l = if 9223372036854775807 < Lg.dec l then .range else .ok (Lg.dec l : Int) := by
 cases l with
 | nil => exact absurd rfl hne
 | cons c r =>
   have hd : 48 ≤ c.toNat ∧ c.toNat ≤ 57 := by
    have := h
    rw [List.all_cons, Bool.and_eq_true] at this
    have := this.1
    unfold Lg.qqu at this
    simpa using this
   rw [Lib.parseIntB_plain 64 c r (by omega) (by omega)]
   unfold Lib.parseUintB
   rw [if_neg hne]
   have e : qvk 0 (c :: r) = Lg.dec (c :: r) := rfl
   rcases parseM (c :: r) 0 h with h1 | ⟨h1, h2⟩
   · show Lib.signlessC _ (Lib.parseUintM 18446744073709551615 0 (c :: r)) = _
     rw [h1, e]
     show (if 9223372036854775808 ≤ Lg.dec (c :: r) then _ else _) = _
     split
     · rw [if_pos (by omega)]
     · rw [if_neg (by omega)]
   · show Lib.signlessC _ (Lib.parseUintM 18446744073709551615 0 (c :: r)) = _
     rw [e] at h2
     rw [h1, if_pos h2]; rfl
theorem pint_OK : OK Tryz.prog 64 pintS where
 enters := fun _ _ => rfl
 calls := by
  rintro ys bx Kr Kp ⟨l, rfl, hne, hall, hl, hK1, hK2⟩ g vs w hv hw
  rcases hv with _ | ⟨h1, _ | ⟨h2, _ | ⟨h3, _ | _⟩⟩⟩
  rcases h1 with ⟨⟨⟩⟩
  rcases h2 with ⟨⟨⟩⟩
  rcases h3 with ⟨⟨⟩⟩
  have hp := parse64 hne hall
  have hsz : (⟨l.toArray⟩ : ByteArray).size = l.length := by simp [ByteArray.size]
  by_cases hd : 9223372036854775807 < Lg.dec l
  · rw [if_pos hd] at hp
    obtain ⟨v, hg⟩ := hw.fx.2
    refine (Go.Proofs.Tryz.strconv_ParseInt_10_at64_range ⟨l.toArray⟩ (by omega) hp (.iface v.1 v.2) w (hw.fx.1 _ _ _ hg).1 (Or.inr ⟨_, _, rfl⟩)).mono fun e w' he => ?_
    obtain ⟨N, rfl, _, _, hB⟩ := he
    exact ⟨g, Or.inl ⟨_, _, nix, none, rfl, hK2 hd _ _ (.imm _), .tup (.cons (.d (.int _ _)) (.cons (.d (.ifc _ (.imm _))) .nil)), Aft.below hw hB⟩⟩
  · rw [if_neg hd] at hp
    refine (Go.Proofs.Tryz.strconv_ParseInt_10_at64_ok ⟨l.toArray⟩ (by omega) _ hp w).mono fun e w' he => ?_
    obtain ⟨rfl, he⟩ := he
    have hB : Below w.heap.size w w' := by
     rcases he with rfl | ⟨t, rfl⟩
     · exact Below.refl _ _
     · exact Joins.below_bytesWorld _ _ _ _ (Nat.le_refl _)
    exact ⟨g, Or.inl ⟨_, _, nix, none, rfl, hK1 (by omega), .tup (.cons (.d (.int _ _)) (.cons (.d (.imm _)) .nil)), Aft.below hw hB⟩⟩
theorem Parse_OK : OK Tryz.prog 4 qwy := parse_OK Lg.item_pay (toks_OK pint_OK idx_OK)
end Lx
