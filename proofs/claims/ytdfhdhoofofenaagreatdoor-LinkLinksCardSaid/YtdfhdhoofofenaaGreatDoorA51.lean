import Derived.Test.YtdfhdhoofofenaaGreatDoorA50
import Derived.Test.YtdfhdhoofofenaaGreatDoorA00
set_option linter.unusedSimpArgs false
set_option linter.unusedVariables false
namespace Lg
def Gd (t : Tok) : Prop := ∃ p l, qvb p l = .ok t
def Nx (m k : Bs) : Prop := m.head? = k.head? ∨ m.head? = some 32 ∨ m.head? = some 10
theorem tw_app (p : UInt8 → Bool) {s m : Bs} (hs : s.all p = true) (hm : ∀ b, m.head? = some b → p b = false) : (s ++ m).takeWhile p = s ∧ (s ++ m).dropWhile p = m := by
 induction s with
 | nil =>
   cases m with
   | nil => exact ⟨rfl, rfl⟩
   | cons b m => simp [List.takeWhile_cons, List.dropWhile_cons, hm b rfl]
 | cons a s ih =>
   rw [List.all_cons, Bool.and_eq_true] at hs
   obtain ⟨h1, h2⟩ := ih hs.2
   constructor
   · rw [List.cons_append, List.takeWhile_cons, if_pos hs.1, h1]
   · rw [List.cons_append, List.dropWhile_cons, if_pos hs.1, h2]
theorem tw_all' (p : UInt8 → Bool) : ∀ l : Bs, (l.takeWhile p).all p = true
 | [] => rfl
 | x :: l => by
   rw [List.takeWhile_cons]
   split
   · rename_i h; rw [List.all_cons, h, tw_all' p l]; rfl
   · rfl
theorem zjc (p : UInt8 → Bool) : ∀ (l : Bs) b, (l.dropWhile p).head? = some b → p b = false
 | [], b, h => by cases h
 | x :: l, b, h => by
   rw [List.dropWhile_cons] at h
   split at h
   · exact zjc p l b h
   · rename_i hx; cases h; simpa using hx
theorem tw_dw (p : UInt8 → Bool) (l : Bs) : l.takeWhile p ++ l.dropWhile p = l := List.takeWhile_append_dropWhile
theorem dw_drop (p : UInt8 → Bool) (l : Bs) : l.dropWhile p = l.drop (l.takeWhile p).length := by
 induction l with
 | nil => rfl
 | cons x l ih =>
   rw [List.dropWhile_cons, List.takeWhile_cons]
   split
   · rw [List.length_cons, List.drop_succ_cons, ih]
   · rfl
theorem nx_not {p : UInt8 → Bool} {m k : Bs} (h : Nx m k) (hk : ∀ b, k.head? = some b → p b = false) (h32 : p 32 = false) (h10 : p 10 = false) : ∀ b, m.head? = some b → p b = false := by
 intro b hb
 rcases h with h | h | h
 · exact hk b (by rw [← h]; exact hb)
 · rw [h] at hb; cases hb; exact h32
 · rw [h] at hb; cases hb; exact h10
theorem nx_letter {m k : Bs} (h : Nx m k) (hk : qv8 k = false) : qv8 m = false := by
 have e : ∀ l : Bs, qv8 l = match l.head? with | none => false | some b => qv7 b := fun l => by cases l <;> rfl
 rw [e] at hk ⊢
 rcases h with h | h | h
 · rw [h]; exact hk
 · rw [h]; decide
 · rw [h]; decide
theorem pfx2 (a c b : UInt8) (m : Bs) : [a, c].isPrefixOf (b :: m) = (a == b && (match m.head? with | none => false | some x => c == x)) := by
 cases m with
 | nil => simp [List.isPrefixOf]
 | cons x m => simp [List.isPrefixOf]
theorem zve {a c b : UInt8} {m k : Bs} (h : Nx m k) (hc : c ≠ 32 ∧ c ≠ 10) (hk : [a, c].isPrefixOf (b :: k) = false) : [a, c].isPrefixOf (b :: m) = false := by
 rw [pfx2] at hk ⊢
 rcases h with h | h | h
 · rw [h]; exact hk
 · rw [h]; simp [hc.1]
 · rw [h]; simp [hc.2]
theorem sign_loc {b : UInt8} {r : Bs} (h : sign (b :: r) ≠ []) : ∃ k, b :: r = sign (b :: r) ++ k ∧ (sign (b :: r)).head? = some b ∧ ∀ m, Nx m k → sign (sign (b :: r) ++ m) = sign (b :: r) := by
 unfold sign at h ⊢
 by_cases h1 : zqt.isPrefixOf (b :: r) = true
 · simp only [if_pos h1] at h ⊢
   obtain ⟨k, hk⟩ := List.isPrefixOf_iff_prefix.1 h1
   refine ⟨k, hk.symm, ?_, fun m _ => ?_⟩
   · have := congrArg List.head? hk; exact this
   · rw [if_pos (List.isPrefixOf_iff_prefix.2 ⟨m, rfl⟩)]
 simp only [if_neg h1] at h ⊢
 by_cases h2 : sLe.isPrefixOf (b :: r) = true
 · simp only [if_pos h2] at h ⊢
   obtain ⟨k, hk⟩ := List.isPrefixOf_iff_prefix.1 h2
   refine ⟨k, hk.symm, ?_, fun m _ => ?_⟩
   · have := congrArg List.head? hk; exact this
   · rw [if_neg (by simp [zqt, sLe, List.isPrefixOf]), if_pos (List.isPrefixOf_iff_prefix.2 ⟨m, rfl⟩)]
 simp only [if_neg h2] at h ⊢
 by_cases h3 : sEq2.isPrefixOf (b :: r) = true
 · simp only [if_pos h3] at h ⊢
   obtain ⟨k, hk⟩ := List.isPrefixOf_iff_prefix.1 h3
   refine ⟨k, hk.symm, ?_, fun m _ => ?_⟩
   · have := congrArg List.head? hk; exact this
   · rw [if_neg (by simp [zqt, sEq2, List.isPrefixOf]), if_neg (by simp [sLe, sEq2, List.isPrefixOf]), if_pos (List.isPrefixOf_iff_prefix.2 ⟨m, rfl⟩)]
 simp only [if_neg h3] at h ⊢
 by_cases h4 : signs.contains b = true
 · simp only [if_pos h4] at h ⊢
   refine ⟨r, rfl, rfl, fun m hm => ?_⟩
   have e1 := zve (a := 45) (c := 62) (b := b) hm (by decide) (Bool.eq_false_iff.2 h1)
   have e2 := zve (a := 60) (c := 61) (b := b) hm (by decide) (Bool.eq_false_iff.2 h2)
   have e3 := zve (a := 61) (c := 61) (b := b) hm (by decide) (Bool.eq_false_iff.2 h3)
   show (if zqt.isPrefixOf (b :: m) = true then zqt else if sLe.isPrefixOf (b :: m) = true then sLe else if sEq2.isPrefixOf (b :: m) = true then sEq2 else if signs.contains b = true then [b] else []) = [b]
   rw [if_neg (by rw [show zqt = [45, 62] from rfl, e1]; decide), if_neg (by rw [show sLe = [60, 61] from rfl, e2]; decide), if_neg (by rw [show sEq2 = [61, 61] from rfl, e3]; decide), if_pos h4]
 · simp only [if_neg h4] at h
   exact absurd rfl h
theorem tok_loc {p : Int} {b : UInt8} {r : Bs} {t : Tok} (h : qvb p (b :: r) = .ok t) : t.kind ≠ 0 ∧ t.pos = p ∧ t.text.head? = some b ∧ ∃ k, b :: r = t.text ++ k ∧
  ∀ q m, Nx m k → qvb q (t.text ++ m) = .ok ⟨t.kind, t.text, t.num, q⟩ := by
 unfold qvb at h
 simp only at h
 by_cases hd : qqu b = true
 · rw [if_pos hd] at h
   split at h
   · cases h
   · rename_i hc
     cases h
     have hb : (b :: r).takeWhile qqu = b :: r.takeWhile qqu := by rw [List.takeWhile_cons, if_pos hd]
     refine ⟨(by decide : (3 : Int) ≠ 0), rfl, by simp only [hb]; rfl, _, (tw_dw qqu _).symm, fun q m hm => ?_⟩
     obtain ⟨e1, e2⟩ := tw_app qqu (tw_all' qqu (b :: r)) (nx_not hm (zjc qqu _) (by decide) (by decide))
     have e3 : (b :: r).takeWhile qqu ++ m = b :: (r.takeWhile qqu ++ m) := by rw [hb]; rfl
     simp only [Bool.or_eq_true, not_or] at hc
     have hc1 : ¬ (decide (1099511627776 < dec ((b :: r).takeWhile qqu)) || (decide (1 < ((b :: r).takeWhile qqu).length) && b == 48) || qv8 m) = true := by
      simp only [Bool.or_eq_true, not_or]
      refine ⟨hc.1, ?_⟩
      rw [nx_letter hm (by simpa using hc.2)]
      decide
     unfold qvb
     rw [e3]
     simp only
     rw [if_pos hd, ← e3, e1, e2]
     rw [if_neg hc1]
 · rw [if_neg hd] at h
   by_cases hl : qv7 b = true
   · rw [if_pos hl] at h
     split at h
     · cases h
     · rename_i hc
       cases h
       have hw : qqz b = true := by unfold qqz; rw [hl]; rfl
       have hb : (b :: r).takeWhile qqz = b :: r.takeWhile qqz := by rw [List.takeWhile_cons, if_pos hw]
       refine ⟨by show (if isKey _ then (2 : Int) else 1) ≠ 0; split <;> decide, rfl, by simp only [hb]; rfl, _, (tw_dw qqz _).symm, fun q m hm => ?_⟩
       obtain ⟨e1, e2⟩ := tw_app qqz (tw_all' qqz (b :: r)) (nx_not hm (zjc qqz _) (by decide) (by decide))
       have e3 : (b :: r).takeWhile qqz ++ m = b :: (r.takeWhile qqz ++ m) := by rw [hb]; rfl
       unfold qvb
       rw [e3]
       simp only
       rw [if_neg hd, if_pos hl, ← e3, e1, if_neg hc]
   · rw [if_neg hl] at h
     split at h
     · cases h
     · rename_i hc
       cases h
       obtain ⟨k, hk, hh, hm⟩ := sign_loc hc
       refine ⟨(by decide : (4 : Int) ≠ 0), rfl, hh, k, hk, fun q m hx => ?_⟩
       have e := hm m hx
       generalize sign (b :: r) = s at *
       cases s with
       | nil => exact absurd rfl hc
       | cons c s =>
         cases hh
         unfold qvb
         simp only [List.cons_append] at e ⊢
         rw [if_neg hd, if_neg hl, e, if_neg hc]
theorem tok_b {b : UInt8} {r : Bs} {p : Int} {t : Tok} (h : qvb p (b :: r) = .ok t) : (b == 32 || b == 10) = false ∧ (b == 35) = false := by
 refine ⟨?_, ?_⟩
 · cases e : (b == 32 || b == 10) with
   | false => rfl
   | true =>
     rw [Bool.or_eq_true] at e
     rcases e with e | e <;> (have := eq_of_beq e; subst this; cases h)
 · cases e : b == 35 with
   | false => rfl
   | true => have := eq_of_beq e; subst this; cases h
theorem zxx {p : Int} {t : Tok} {m : Bs} (h : qvb p (t.text ++ m) = .ok t) (hne : t.text ≠ []) : lex p (t.text ++ m) = match lex (p + t.text.length) m with
  | .error e => .error e
  | .ok ts => .ok (t :: ts) := by
 obtain ⟨b, s, e⟩ : ∃ b s, t.text = b :: s := by
  cases e : t.text with
  | nil => exact absurd e hne
  | cons b s => exact ⟨b, s, rfl⟩
 have h' : qvb p (b :: (s ++ m)) = .ok t := by rw [e] at h; exact h
 obtain ⟨h1, h2⟩ := tok_b h'
 have e2 : (s ++ m).drop (t.text.length - 1) = m := by rw [e]; simp
 rw [e, List.cons_append, lex, h1, h2, h', ← e]
 simp only [e2, Bool.false_eq_true, if_false]
 cases lex (p + t.text.length) m <;> rfl
theorem qjb {p : Int} {b : UInt8} {m : Bs} (h : (b == 32 || b == 10) = true) : lex p (b :: m) = lex (p + 1) m := by
 rw [lex, if_pos h]
theorem zxy {p : Int} {m : Bs} : lex p (35 :: m) = lex (p + 1 + (m.takeWhile (· != 10)).length) (m.dropWhile (· != 10)) := by
 rw [lex]
 rfl
inductive LexC : Int → Bs → List Tok → Prop
 | nil {p} : LexC p [] [⟨0, [], 0, p⟩]
 | blank {p b m ts} : (b == 32 || b == 10) = true → LexC (p + 1) m ts → LexC p (b :: m) ts
 | rem {p m ts} : (∀ c ∈ m, (c != 10) = true) → ts = [⟨0, [], 0, p + 1 + m.length⟩] → LexC p (35 :: m) ts
 | rem' {p s m ts} : (s.all (· != 10)) = true → LexC (p + 1 + s.length + 1) m ts → LexC p (35 :: (s ++ 10 :: m)) ts
 | tok {p t k ts} : t.kind ≠ 0 → t.pos = p → t.text ≠ [] → Gd t → (∀ q m, Nx m k → qvb q (t.text ++ m) = .ok ⟨t.kind, t.text, t.num, q⟩) → LexC (p + t.text.length) k ts → LexC p (t.text ++ k) (t :: ts)
theorem qv3 : ∀ (n : Nat) (p : Int) (l : Bs), l.length ≤ n → ∀ ts, lex p l = .ok ts → LexC p l ts
 | n, p, [], _, ts, h => by rw [lex] at h; cases h; exact .nil
 | 0, p, b :: r, hn, ts, h => by simp at hn
 | n + 1, p, b :: r, hn, ts, h => by
   simp only [List.length_cons] at hn
   by_cases hb : (b == 32 || b == 10) = true
   · rw [qjb hb] at h
     exact .blank hb (qv3 n _ _ (by omega) _ h)
   by_cases hr : (b == 35) = true
   · have := eq_of_beq hr
     subst this
     rw [zxy] at h
     have hl := qjn (· != 10) r
     have e := tw_dw (· != 10) r
     have hall := tw_all' (· != 10) r
     have hh := zjc (· != 10) r
     generalize r.takeWhile (· != 10) = s at *
     generalize r.dropWhile (· != 10) = m at *
     subst e
     cases m with
     | nil =>
       rw [lex] at h
       cases h
       refine .rem (fun c hc => ?_) (by simp)
       rw [List.append_nil] at hc
       exact List.all_eq_true.1 hall c hc
     | cons c m =>
       have hc := hh c rfl
       have : c = 10 := by simpa using hc
       subst this
       rw [qjb (by decide)] at h
       simp only [List.length_append, List.length_cons] at hn
       exact .rem' hall (qv3 n _ _ (by omega) _ h)
   · rw [lex, if_neg hb, if_neg hr] at h
     cases ht : qvb p (b :: r) with
     | error e => rw [ht] at h; cases h
     | ok t =>
       rw [ht] at h
       obtain ⟨h1, h2, h3, k, hk, hm⟩ := tok_loc ht
       have hne : t.text ≠ [] := by intro e; rw [e] at h3; cases h3
       have hlen : (t.text ++ k).length ≤ n + 1 := by rw [← hk]; simp only [List.length_cons]; omega
       have hpos : 0 < t.text.length := List.length_pos_iff.2 hne
       have he : r.drop (t.text.length - 1) = k := by
        have : (b :: r).drop t.text.length = k := by rw [hk]; simp
        rw [← this]
        cases hx : t.text.length with
        | zero => omega
        | succ j => simp
       simp only [he] at h
       rw [List.length_append] at hlen
       cases hx : lex (p + t.text.length) k with
       | error e => rw [hx] at h; cases h
       | ok ts' =>
         rw [hx] at h
         cases h
         rw [hk]
         exact .tok h1 h2 hne ⟨p, b :: r, ht⟩ hm (qv3 n _ k (by omega) _ hx)
theorem lex_c {p : Int} {l : Bs} {ts : List Tok} (h : lex p l = .ok ts) : LexC p l ts := qv3 _ _ _ (Nat.le_refl _) _ h
structure LexP (p : Int) (l : Bs) (ts : List Tok) : Prop where
 fin : ∃ pre, ts = pre ++ [⟨0, [], 0, p + l.length⟩] ∧ ∀ t ∈ pre, t.kind ≠ 0 ∧ Gd t
 srt : ts.Pairwise fun a b => a.pos < b.pos
 bd : ∀ t ∈ ts, p ≤ t.pos ∧ t.pos ≤ p + l.length
theorem LexC.props {p : Int} {l : Bs} {ts : List Tok} (h : LexC p l ts) : LexP p l ts := by
 induction h with
 | @nil p => exact ⟨⟨[], by simp, by simp⟩, by simp, by simp⟩
 | @blank p b m ts hb h ih =>
   obtain ⟨⟨pre, e, hp⟩, hs, hbd⟩ := ih
   refine ⟨⟨pre, ?_, hp⟩, hs, fun t ht => ?_⟩
   · rw [e, List.length_cons]
     have : p + 1 + (m.length : Int) = p + ((m.length + 1 : Nat) : Int) := by push_cast; omega
     rw [this]
   · have := hbd t ht
     rw [List.length_cons]; push_cast; omega
 | @rem p m ts hm e =>
   subst e
   refine ⟨⟨[], ?_, by simp⟩, by simp, ?_⟩
   · rw [List.length_cons]
     have : p + 1 + (m.length : Int) = p + ((m.length + 1 : Nat) : Int) := by push_cast; omega
     rw [this]; rfl
   · intro t ht
     rw [List.mem_singleton] at ht
     subst ht
     rw [List.length_cons]
     show p ≤ p + 1 + (m.length : Int) ∧ p + 1 + (m.length : Int) ≤ p + ((m.length + 1 : Nat) : Int)
     push_cast; omega
 | @rem' p s m ts hs h ih =>
   obtain ⟨⟨pre, e, hp⟩, hs, hbd⟩ := ih
   have el : ((35 :: (s ++ 10 :: m) : Bs).length : Int) = 1 + s.length + 1 + m.length := by simp only [List.length_cons, List.length_append]; push_cast; omega
   refine ⟨⟨pre, ?_, hp⟩, hs, fun t ht => ?_⟩
   · rw [e, el]
     have : p + 1 + (s.length : Int) + 1 + m.length = p + (1 + s.length + 1 + m.length) := by omega
     rw [this]
   · have := hbd t ht
     rw [el]; omega
 | @tok p t k ts h1 h2 h3 hg hm h ih =>
   obtain ⟨⟨pre, e, hp⟩, hs, hbd⟩ := ih
   have hpos : 0 < t.text.length := List.length_pos_iff.2 h3
   have el : ((t.text ++ k).length : Int) = t.text.length + k.length := by rw [List.length_append, Int.natCast_add]
   refine ⟨⟨t :: pre, ?_, ?_⟩, ?_, ?_⟩
   · rw [e, el, List.cons_append]
     have : p + (t.text.length : Int) + k.length = p + (t.text.length + k.length) := by omega
     rw [this]
   · intro u hu
     rcases List.mem_cons.1 hu with rfl | hu
     · exact ⟨h1, hg⟩
     · exact hp u hu
   · refine List.pairwise_cons.2 ⟨fun u hu => ?_, hs⟩
     have := hbd u hu
     omega
   · intro u hu
     rw [el]
     rcases List.mem_cons.1 hu with rfl | hu
     · omega
     · have := hbd u hu
       omega
theorem LexP.endy {p : Int} {l : Bs} {ts : List Tok} (h : LexP p l ts) : Endy ts := by
 obtain ⟨pre, e, _⟩ := h.fin
 rw [e]
 exact Endy.app (by rfl) pre
theorem LexP.as {p : Int} {l : Bs} {ts : List Tok} (h : LexP p l ts) : As p (p + l.length) ts := ⟨h.endy, h.srt.imp fun h => Int.le_of_lt h, h.bd⟩
def appE (pre : List Tok) : Except (Int × Int) (List Tok) → Except (Int × Int) (List Tok)
 | .error e => .error e
 | .ok us => .ok (pre ++ us)
theorem zjj (x : Except (Int × Int) (List Tok)) : appE [] x = x := by cases x <;> rfl
theorem LexC.cut {p : Int} {l : Bs} {ts : List Tok} (h : LexC p l ts) : ∀ {pre : List Tok} {t : Tok} {r : List Tok}, ts = pre ++ t :: r → ∀ m : Bs, (m.head? = some 32 ∨ m.head? = some 10) →
  ∃ j, (m.head? = some 10 → j = 0) ∧ lex p (l.take (t.pos - p).toNat ++ m) = appE pre (lex (t.pos + (j : Nat)) (m.drop j)) := by
 induction h with
 | @nil p =>
   intro pre t r e m hm
   cases pre with
   | nil =>
     cases e
     refine ⟨0, fun _ => rfl, ?_⟩
     rw [zjj]; simp
   | cons x pre => cases pre <;> cases e
 | @blank p b m' ts hb h ih =>
   intro pre t r e m hm
   obtain ⟨j, hj, ih⟩ := ih e m hm
   refine ⟨j, hj, ?_⟩
   have hp : p + 1 ≤ t.pos := (h.props.bd t (by rw [e]; simp)).1
   have en : (t.pos - p).toNat = (t.pos - (p + 1)).toNat + 1 := by omega
   rw [en, List.take_succ_cons, List.cons_append, qjb hb, ih]
 | @rem p m' ts hm' e' =>
   intro pre t r e m hm
   subst e'
   cases pre with
   | cons x pre => cases pre <;> cases e
   | nil =>
     cases e
     simp only [zjj]
     have en : (p + 1 + (m'.length : Int) - p).toNat = (35 :: m' : Bs).length := by rw [List.length_cons]; omega
     rw [en, List.take_length, List.cons_append, zxy]
     have h1 : (m' ++ m).takeWhile (· != 10) = m' ++ m.takeWhile (· != 10) := List.takeWhile_append_of_pos hm'
     have h2 : (m' ++ m).dropWhile (· != 10) = m.dropWhile (· != 10) := List.dropWhile_append_of_pos hm'
     refine ⟨(m.takeWhile (· != 10)).length, fun h10 => ?_, ?_⟩
     · cases m with
       | nil => rfl
       | cons c m => cases h10; rfl
     · rw [h1, h2, dw_drop, List.length_append]
       show lex _ _ = lex (p + 1 + (m'.length : Int) + _) _
       congr 1
       push_cast; omega
 | @rem' p s m' ts hs h ih =>
   intro pre t r e m hm
   obtain ⟨j, hj, ih⟩ := ih e m hm
   refine ⟨j, hj, ?_⟩
   have hp : p + 1 + s.length + 1 ≤ t.pos := (h.props.bd t (by rw [e]; simp)).1
   have en : (t.pos - p).toNat = ((t.pos - (p + 1 + s.length + 1)).toNat + 1 + s.length) + 1 := by omega
   have et : (s ++ 10 :: m').take ((t.pos - (p + 1 + s.length + 1)).toNat + 1 + s.length) = s ++ 10 :: m'.take (t.pos - (p + 1 + s.length + 1)).toNat := by
    rw [List.take_append, List.take_of_length_le (by omega)]
    congr 1
    rw [show (t.pos - (p + 1 + s.length + 1)).toNat + 1 + s.length - s.length = (t.pos - (p + 1 + s.length + 1)).toNat + 1 by omega, List.take_succ_cons]
   obtain ⟨e1, e2⟩ := tw_app (· != 10) (s := s) (m := 10 :: (m'.take (t.pos - (p + 1 + s.length + 1)).toNat ++ m)) hs (fun b hb => by cases hb; rfl)
   rw [en, List.take_succ_cons, List.cons_append, zxy, et, List.append_assoc, List.cons_append, e1, e2, qjb (by decide), ih]
 | @tok p t0 k ts h1 h2 h3 hg hm' h ih =>
   intro pre t r e m hm
   cases pre with
   | nil =>
     cases e
     refine ⟨0, fun _ => rfl, ?_⟩
     rw [zjj, h2]
     simp
   | cons x pre =>
     rw [List.cons_append] at e
     cases e
     obtain ⟨j, hj, ih⟩ := ih rfl m hm
     refine ⟨j, hj, ?_⟩
     have hp : p + t0.text.length ≤ t.pos := (h.props.bd t (by simp)).1
     have et : (t0.text ++ k).take (t.pos - p).toNat = t0.text ++ k.take (t.pos - (p + t0.text.length)).toNat := by
      rw [List.take_append, List.take_of_length_le (by omega)]
      congr 2
      omega
     have hx : Nx (k.take (t.pos - (p + t0.text.length)).toNat ++ m) k := by
      cases k with
      | nil => right; simpa using hm
      | cons c k =>
        cases hn : (t.pos - (p + t0.text.length)).toNat with
        | zero => right; simpa using hm
        | succ n => left; simp
     have ht := hm' p _ hx
     have e0 : (⟨t0.kind, t0.text, t0.num, p⟩ : Tok) = t0 := by cases t0; simp only at h2; subst h2; rfl
     rw [e0] at ht
     rw [et, List.append_assoc, zxx ht h3, ih]
     cases lex (t.pos + (j : Nat)) (m.drop j) <;> rfl
theorem zx1 : ∀ (n : Nat) (p : Int) (l : Bs), l.length ≤ n → ∀ a c, lex p l = .error (a, c) → (c = 11 ∨ c = 12 ∨ c = 13) ∧ p ≤ a ∧ a ≤ p + l.length
 | n, p, [], _, a, c, h => by rw [lex] at h; cases h
 | 0, p, b :: r, hn, a, c, h => by simp at hn
 | n + 1, p, b :: r, hn, a, c, h => by
   simp only [List.length_cons] at hn ⊢
   by_cases hb : (b == 32 || b == 10) = true
   · rw [qjb hb] at h
     have := zx1 n _ _ (by omega) _ _ h
     push_cast; omega
   by_cases hr : (b == 35) = true
   · have := eq_of_beq hr
     subst this
     have hl := qjn (· != 10) r
     have h2 := congrArg List.length (tw_dw (· != 10) r)
     rw [List.length_append] at h2
     rw [zxy] at h
     have := zx1 n _ _ (by omega) _ _ h
     push_cast; omega
   · rw [lex, if_neg hb, if_neg hr] at h
     cases ht : qvb p (b :: r) with
     | error e =>
       rw [ht] at h
       cases h
       refine ⟨?_, by omega, by omega⟩
       unfold qvb at ht
       simp only at ht
       repeat' split at ht
       all_goals first
        | (cases ht; simp; done)
        | cases ht
     | ok t =>
       rw [ht] at h
       simp only at h
       obtain ⟨_, _, h3, k, hk, _⟩ := tok_loc ht
       have hpos : 0 < t.text.length := by
        cases e : t.text with
        | nil => rw [e] at h3; cases h3
        | cons _ _ => simp
       have hlen := congrArg List.length hk
       rw [List.length_append, List.length_cons] at hlen
       cases hx : lex (p + t.text.length) (r.drop (t.text.length - 1)) with
       | error e =>
         rw [hx] at h
         cases h
         have := zx1 n _ _ (by rw [List.length_drop]; omega) _ _ hx
         rw [List.length_drop] at this
         refine ⟨this.1, by omega, ?_⟩
         push_cast; omega
       | ok ts => rw [hx] at h; cases h
end Lg
