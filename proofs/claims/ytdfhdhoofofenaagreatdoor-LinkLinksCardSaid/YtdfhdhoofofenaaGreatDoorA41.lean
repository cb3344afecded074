import Derived.Test.YtdfhdhoofofenaaGreatDoorA39
import Derived.Test.YtdfhdhoofofenaaGreatDoorA34
set_option linter.unusedSimpArgs false
set_option linter.unusedVariables false
set_option maxRecDepth 20000
namespace Lx
open Go
open Lg (Tok Tree)
open Go.Proofs (Tryz.prog)
open Go.Proofs.Tryz
abbrev expD (t : Tree) : D := .ag [.int .i64 t.kind, .st t.text, .int .i64 t.num, .int .i64 t.pos, .sl 5 (qzh t.kids) false]
theorem qvy {ts ts' : List Tok} {w : Tree} (h : Lg.name ts = .ok (w, ts')) : w.num = 0 := by
 obtain ⟨t, l, _, h⟩ := Lg.qzr h
 cases h; rfl
abbrev zjl (N : Tree) (gs : List Tree) (ts : List Tok) : Lg.PR Tree := Lg.bnd (Lg.must Lg.sSemi ts) fun _ ts => .ok (N.withKids (N.kids ++ gs), ts)
abbrev fieldK (nm : Bs) (at_ : Int) (s : Tree) (fs : List Tree) (ts : List Tok) : Lg.PR Tree := Lg.bnd (Lg.must Lg.sRcu ts) fun _ ts => Lg.qx2 (.node 1 nm 0 at_ (s :: fs)) ts
theorem qwu {N : Tree} {ts : List Tok} (h : Lg.isT Lg.sWhere ts = true) : Lg.qx2 N ts = Lg.bnd (Lg.fact ts.tail) fun x ts' => qjf Lg.fact (zjl N) [x] ts' := by
 unfold Lg.qx2
 rw [if_pos h, qk3]
theorem zzk {N : Tree} {ts : List Tok} (h : Lg.isT Lg.sWhere ts = false) : Lg.qx2 N ts = zjl N [] ts := by
 unfold Lg.qx2 zjl
 rw [if_neg (by rw [h]; decide)]
 obtain ⟨k, t, m, p, ks⟩ := N
 simp [Tree.withKids, Tree.kids]
abbrev qqs (T : List Tok) (deep : Int) (nm : Bs) (num at_ : Int) (sl : Nat) (o : Bool) (ds : List D) (i : Nat) (fl p : Int) : S :=
 ⟨54, put 0 (.bp 1000 0) (put 4 (.bp 4 0) (put 5 (.bp 5 0) (put sl (.d (.bool o)) nix))), put 1000 (rbx T i deep fl p) (put 4 ⟨qkg, 37⟩ (put 5 ⟨[.d (.int .i64 1), .d (.st nm), .d (.int .i64 num), .d (.int .i64 at_), .os 19 5 ds.length], 37⟩ nix)), put 19 (5, 37, ds) nix⟩
def rtyp : Spec := fun ys bx Kr Kp => ∃ at_, refP (fun _ => True) (fun t => .d (qzl t)) (Lg.typ at_) [.d (.int .i64 at_)] ys bx Kr Kp
abbrev trQ (T : List Tok) (deep a : Int) (Kr : LV → Bx → Ar1 → Prop) (x : Lg.PR Tree) : Prop := refQ T deep a (fun _ => True) (fun t => .d (qzl t)) Kr x
abbrev tfQ (T : List Tok) (deep : Int) (Kr : LV → Bx → Ar1 → Prop) (c p : Int) : Prop := flQ T deep (fun _ => True) (fun t => .d (qzl t)) Kr c p
inductive TypQ where
 | yes (ds : List D) (acc : List Tree) (i : Nat) (ts : List Tok)
 | no (ds : List D) (acc : List Tree) (i : Nat) (ts : List Tok)
 | bad (ds : List D) (acc : List Tree) (i : Nat) (c p : Int)
def typM : TypQ → Nat
 | .yes _ _ _ ts => ts.length + 1
 | _ => 0
def typOk (T : List Tok) (deep a : Int) (Kr : LV → Bx → Ar1 → Prop) (nm : Bs) (at_ : Int) (s : Tree) : TypQ → Prop
 | .yes ds acc i ts => At T i ts ∧ qxl ds (s :: acc) ∧ acc.length + ts.length ≤ 2097152 ∧ trQ T deep a Kr (Lg.bnd (Lg.field ts) fun x ts' => qjf Lg.field (fieldK nm at_ s) (acc ++ [x]) ts')
 | .no ds acc i ts => At T i ts ∧ qxl ds (s :: acc) ∧ acc.length + ts.length ≤ 2097152 ∧ trQ T deep a Kr (Lg.qx2 (.node 1 nm 0 at_ (s :: acc)) ts)
 | .bad ds acc i c p => c ≠ 0 ∧ (∃ ts, At T i ts) ∧ qxl ds (s :: acc) ∧ tfQ T deep Kr c p
abbrev TypT (T : List Tok) (deep a : Int) (Kr : LV → Bx → Ar1 → Prop) (nm : Bs) (at_ : Int) (s : Tree) := { q : TypQ // typOk T deep a Kr nm at_ s q }
def typF (T : List Tok) (deep a : Int) (nm : Bs) (at_ : Int) : TypQ → S
 | .yes ds _ i _ => qqs T deep nm 0 at_ 7 true ds i 0 a
 | .no ds _ i _ => qqs T deep nm 0 at_ 7 false ds i 0 a
 | .bad ds _ i c p => qqs T deep nm 0 at_ 7 false ds i c p
def tywOk (T : List Tok) (deep a : Int) (Kr : LV → Bx → Ar1 → Prop) (nm : Bs) (at_ : Int) (fs : List Tree) : TypQ → Prop
 | .yes ds gs i ts => At T i ts ∧ qxl ds (fs ++ gs) ∧ (fs ++ gs).length + ts.length ≤ 2097153 ∧ trQ T deep a Kr (Lg.bnd (Lg.fact ts) fun x ts' => qjf Lg.fact (zjl (.node 1 nm 0 at_ fs)) (gs ++ [x]) ts')
 | .no ds gs i ts => At T i ts ∧ qxl ds (fs ++ gs) ∧ (fs ++ gs).length + ts.length ≤ 2097153 ∧ trQ T deep a Kr (zjl (.node 1 nm 0 at_ fs) gs ts)
 | .bad ds gs i c p => c ≠ 0 ∧ (∃ ts, At T i ts) ∧ qxl ds (fs ++ gs) ∧ tfQ T deep Kr c p
abbrev TywT (T : List Tok) (deep a : Int) (Kr : LV → Bx → Ar1 → Prop) (nm : Bs) (at_ : Int) (fs : List Tree) := { q : TypQ // tywOk T deep a Kr nm at_ fs q }
def tywF (T : List Tok) (deep a : Int) (nm : Bs) (at_ : Int) : TypQ → S
 | .yes ds _ i _ => qqs T deep nm 0 at_ 9 true ds i 0 a
 | .no ds _ i _ => qqs T deep nm 0 at_ 9 false ds i 0 a
 | .bad ds _ i c p => qqs T deep nm 0 at_ 9 false ds i c p
set_option maxHeartbeats 16000000 in
theorem rtyp_OK : OK Tryz.prog 26 rtyp := by
 refine fn_OK' qzu (E := (EO 19)) (sp := spL [(55, (refP (fun _ => True) (fun t => .d (qxm t)) Lg.name [])), (59, (refP (fun _ => True) (fun t => .d (qzl t)) Lg.sort [])), (23, rhas), (60, (refP (fun _ => True) (fun t => .d (qzl t)) Lg.field [])), (25, qw3), (61, (refP (fun t : Tree => t.kids.length = 2) (fun t => .d (zz8 t)) Lg.fact []))]) qzt qzm (OKs.ok ⟨qx3, ⟨rsort_OK, ⟨qq8, ⟨rfield_OK, ⟨qxi, ⟨zwm, trivial⟩⟩⟩⟩⟩⟩) func26 rfl ntmps26 results26 call26 [1000] none ?_
 rintro ys bx Kr Kp ⟨at_, T, i, ts, deep, fl, a, rfl, hb, hA, hK⟩
 refine ⟨[(1000, rbx T i deep fl a)], rfl, ⟨by decide, hb, trivial⟩, by simp, ?_⟩
 simp only [go_sem, push_cast, seval]
 rcases hK with ⟨rfl, hK⟩ | ⟨hf, hK⟩
 · unfold Lg.typ at hK
   refine ⟨T, i, ts, deep, 0, a, rfl, rfl, hA, .inl ⟨rfl, qze hK (fun p' c hc hE v i' ts' hb' hA' => ?_) (fun v ts1 i1 e hK hA1 => ?_)⟩⟩
   · simp only [go_sem, push_cast, seval]
     (refine ⟨T, i', ts', deep, c, p', rfl, rfl, hA', .inr ⟨hc, fun s hy_s => ?_⟩⟩; simp only [go_sem, push_cast, seval])
     (refine ⟨T, i', ts', deep, c, p', _, rfl, rfl, hA', .inr ⟨hc, ?_⟩⟩; simp only [go_sem, push_cast, seval])
     refine qzk (T := Unit) (fun _ => qqs T deep v.text v.num at_ 7 false [expD s] i' c p') (fun _ => 0) ()
      (zsub (qza rfl (qza rfl (qza rfl (qza rfl qzb)))) (qza rfl (qza rfl (qza rfl qzb))) (qza rfl qzb)) ?_
     rintro ⟨⟩
     dsimp only [qqs]
     simp only [go_sem, push_cast, seval]
     (refine ⟨T, i', ts', deep, c, p', _, rfl, rfl, hA', .inr ⟨hc, ?_⟩⟩; simp only [go_sem, push_cast, seval])
     refine qzk (T := Unit) (fun _ => qqs T deep v.text v.num at_ 9 false [expD s] i' c p') (fun _ => 0) ()
      (zsub (qza rfl (qza rfl (qza rfl (qza rfl qzb)))) (qza rfl (qza rfl (qza rfl qzb))) (qza rfl qzb)) ?_
     rintro ⟨⟩
     dsimp only [qqs]
     simp only [go_sem, push_cast, seval]
     (refine ⟨_, T, i', ts', deep, c, p', rfl, rfl, hA', .inr ⟨hc, fun _ _ => ?_⟩⟩; simp only [go_sem, push_cast, seval])
     exact ⟨_, qzc (qzd (qzn (ts := [s]) (.cons (qzi s) .nil))), hE (.node 1 v.text v.num at_ [s]) i' trivial ⟨ts', hA'⟩⟩
   · have hv := qqb e
     have hv2 := qvy e
     obtain ⟨k, t, m, p, ks⟩ := v
     cases hv
     cases hv2
     simp only [go_sem, push_cast, seval]
     refine ⟨T, i1, ts1, deep, 0, a, rfl, rfl, hA1, .inl ⟨rfl, qze hK (fun p' c hc hE s i' ts' hb' hA' => ?_) (fun s ts2 i2 e hK hA2 => ?_)⟩⟩
     · simp only [go_sem, push_cast, seval]
       (refine ⟨T, i', ts', deep, c, p', _, rfl, rfl, hA', .inr ⟨hc, ?_⟩⟩; simp only [go_sem, push_cast, seval])
       refine qzk (T := Unit) (fun _ => qqs T deep t 0 at_ 7 false [expD s] i' c p') (fun _ => 0) ()
        (zsub (qza rfl (qza rfl (qza rfl (qza rfl qzb)))) (qza rfl (qza rfl (qza rfl qzb))) (qza rfl qzb)) ?_
       rintro ⟨⟩
       dsimp only [qqs]
       simp only [go_sem, push_cast, seval]
       (refine ⟨T, i', ts', deep, c, p', _, rfl, rfl, hA', .inr ⟨hc, ?_⟩⟩; simp only [go_sem, push_cast, seval])
       refine qzk (T := Unit) (fun _ => qqs T deep t 0 at_ 9 false [expD s] i' c p') (fun _ => 0) ()
        (zsub (qza rfl (qza rfl (qza rfl (qza rfl qzb)))) (qza rfl (qza rfl (qza rfl qzb))) (qza rfl qzb)) ?_
       rintro ⟨⟩
       dsimp only [qqs]
       simp only [go_sem, push_cast, seval]
       (refine ⟨_, T, i', ts', deep, c, p', rfl, rfl, hA', .inr ⟨hc, fun _ _ => ?_⟩⟩; simp only [go_sem, push_cast, seval])
       exact ⟨_, qzc (qzd (qzn (ts := [s]) (.cons (qzi s) .nil))), hE (.node 1 t 0 at_ [s]) i' trivial ⟨ts', hA'⟩⟩
     · simp only [go_sem, push_cast, seval]
       have b2 := hA2.2.1.2
       have hS0 : qxl [expD s] (s :: []) := .cons (qzi s) .nil
       refine ⟨T, i2, ts2, deep, 0, a, Lg.sLcu, rfl, rfl, hA2, .inl ⟨rfl, fun h => ?_, fun h => ?_⟩⟩
       · rw [if_pos h, qk3] at hK
         simp only [go_sem, push_cast, seval]
         refine qzk (T := TypT T deep a Kr t at_ s) (fun q => typF T deep a t at_ q.val) (fun q => typM q.val) ⟨.yes [expD s] [] (i2 + 1) ts2.tail, hA2.isT h, hS0, by rw [List.length_tail]; show 0 + (ts2.length - 1) ≤ 2097152; omega, hK⟩
          (zsub (qza rfl (qza rfl (qza rfl (qza rfl qzb)))) (qza rfl (qza rfl (qza rfl qzb))) (qza rfl qzb)) ?_
         rintro ⟨q, hq⟩
         cases q with
         | yes ds acc i3 ts3 =>
           obtain ⟨hA3, hS, hn, hK⟩ := hq
           dsimp only [typF, qqs]
           simp only [go_sem, push_cast, seval]
           have hl := hS.len
           rw [List.length_cons] at hl
           refine ⟨T, i3, ts3, deep, 0, a, rfl, rfl, hA3, .inl ⟨rfl, qze hK (fun p' c hc hE x i' ts' hb' hA' => ?_) (fun x ts4 i4 e hK hA4 => ?_)⟩⟩
           · simp only [go_sem, push_cast, seval]
             refine ⟨by omega, by omega, ?_⟩
             (refine ⟨T, i', ts', deep, c, p', _, rfl, rfl, hA', .inr ⟨hc, ?_⟩⟩; simp only [go_sem, push_cast, seval])
             (refine ⟨_, T, i', ts', deep, c, p', rfl, rfl, hA', .inr ⟨hc, fun _ _ => ?_⟩⟩; simp only [go_sem, push_cast, seval])
             exact ⟨⟨.bad (ds ++ [expD x]) (acc ++ [x]) i' c p', hc, ⟨ts', hA'⟩, hS.snoc (qzi x), hE⟩, zsub (qza rfl (qza rfl (qza rfl (qza rfl qzb)))) (qza rfl (qza rfl (qza (by simp [put]) qzb))) (qza rfl qzb), Nat.succ_pos _⟩
           · have h1 := Lg.zq8 _ _ _ e
             simp only [go_sem, push_cast, seval]
             refine ⟨by omega, by omega, ?_⟩
             refine ⟨T, i4, ts4, deep, 0, a, Lg.sComma, rfl, rfl, hA4, .inl ⟨rfl, fun h => ?_, fun h => ?_⟩⟩
             · rw [qqr Lg.zq8 h] at hK
               simp only [go_sem, push_cast, seval]
               exact ⟨⟨.yes (ds ++ [expD x]) (acc ++ [x]) (i4 + 1) ts4.tail, hA4.isT h, hS.snoc (qzi x), by rw [List.length_append, List.length_singleton, List.length_tail]; omega, hK⟩, zsub (qza rfl (qza rfl (qza rfl (qza rfl qzb)))) (qza rfl (qza rfl (qza (by simp [put]) qzb))) (qza rfl qzb), by show ts4.tail.length + 1 < ts3.length + 1; rw [List.length_tail]; omega⟩
             · rw [qxg h] at hK
               simp only [go_sem, push_cast, seval]
               refine ⟨_, T, i4, ts4, deep, 0, a, rfl, rfl, hA4, .inl ⟨rfl, qze hK (fun p' c hc hE _ i' ts' hb' hA' => ?_) (fun _ ts5 i5 e hK hA5 => ?_)⟩⟩
               · simp only [go_sem, push_cast, seval]
                 exact ⟨⟨.bad (ds ++ [expD x]) (acc ++ [x]) i' c p', hc, ⟨ts', hA'⟩, hS.snoc (qzi x), hE⟩, zsub (qza rfl (qza rfl (qza rfl (qza rfl qzb)))) (qza rfl (qza rfl (qza (by simp [put]) qzb))) (qza rfl qzb), Nat.succ_pos _⟩
               · have h2 := Lg.qqc _ _ _ _ e
                 simp only [go_sem, push_cast, seval]
                 exact ⟨⟨.no (ds ++ [expD x]) (acc ++ [x]) i5 ts5, hA5, hS.snoc (qzi x), by rw [List.length_append, List.length_singleton]; omega, hK⟩, zsub (qza rfl (qza rfl (qza rfl (qza rfl qzb)))) (qza rfl (qza rfl (qza (by simp [put]) qzb))) (qza rfl qzb), Nat.succ_pos _⟩
         | no ds acc i3 ts3 =>
           obtain ⟨hA3, hS, hn, hK⟩ := hq
           dsimp only [typF, qqs]
           simp only [go_sem, push_cast, seval]
           refine ⟨T, i3, ts3, deep, 0, a, Lg.sWhere, rfl, rfl, hA3, .inl ⟨rfl, fun h => ?_, fun h => ?_⟩⟩
           · rw [qwu h] at hK
             simp only [go_sem, push_cast, seval]
             refine qzk (T := TywT T deep a Kr t at_ (s :: acc)) (fun q => tywF T deep a t at_ q.val) (fun q => typM q.val) ⟨.yes ds [] (i3 + 1) ts3.tail, hA3.isT h, by rw [List.append_nil]; exact hS, by rw [List.append_nil, List.length_cons, List.length_tail]; omega, hK⟩
              (zsub (qza rfl (qza rfl (qza rfl (qza rfl qzb)))) (qza rfl (qza rfl (qza rfl qzb))) (qza rfl qzb)) ?_
             rintro ⟨q, hq⟩
             cases q with
             | yes ds gs i3 ts3 =>
               obtain ⟨hA3, hS, hn, hK⟩ := hq
               dsimp only [tywF, qqs]
               simp only [go_sem, push_cast, seval]
               have hl := hS.len
               refine ⟨T, i3, ts3, deep, 0, a, rfl, rfl, hA3, .inl ⟨rfl, qze hK (fun p' c hc hE x i' ts' hb' hA' => ?_) (fun x ts4 i4 e hK hA4 => ?_)⟩⟩
               · simp only [go_sem, push_cast, seval]
                 refine ⟨by omega, by omega, ?_⟩
                 (refine ⟨T, i', ts', deep, c, p', _, rfl, rfl, hA', .inr ⟨hc, ?_⟩⟩; simp only [go_sem, push_cast, seval])
                 exact ⟨⟨.bad (ds ++ [zz8 x]) (gs ++ [x]) i' c p', hc, ⟨ts', hA'⟩, by rw [← List.append_assoc]; exact hS.snoc (qwo x), hE⟩, zsub (qza rfl (qza rfl (qza rfl (qza rfl qzb)))) (qza rfl (qza rfl (qza (by simp [put]) qzb))) (qza rfl qzb), Nat.succ_pos _⟩
               · have h1 := Lg.zqa _ _ _ e
                 simp only [go_sem, push_cast, seval]
                 refine ⟨by omega, by omega, ?_⟩
                 refine ⟨T, i4, ts4, deep, 0, a, Lg.sComma, rfl, rfl, hA4, .inl ⟨rfl, fun h => ?_, fun h => ?_⟩⟩
                 · rw [qqr Lg.zqa h] at hK
                   simp only [go_sem, push_cast, seval]
                   exact ⟨⟨.yes (ds ++ [zz8 x]) (gs ++ [x]) (i4 + 1) ts4.tail, hA4.isT h, by rw [← List.append_assoc]; exact hS.snoc (qwo x), by rw [← List.append_assoc, List.length_append, List.length_singleton, List.length_tail]; omega, hK⟩, zsub (qza rfl (qza rfl (qza rfl (qza rfl qzb)))) (qza rfl (qza rfl (qza (by simp [put]) qzb))) (qza rfl qzb), by show ts4.tail.length + 1 < ts3.length + 1; rw [List.length_tail]; omega⟩
                 · rw [qxg h] at hK
                   simp only [go_sem, push_cast, seval]
                   exact ⟨⟨.no (ds ++ [zz8 x]) (gs ++ [x]) i4 ts4, hA4, by rw [← List.append_assoc]; exact hS.snoc (qwo x), by rw [← List.append_assoc, List.length_append, List.length_singleton]; omega, hK⟩, zsub (qza rfl (qza rfl (qza rfl (qza rfl qzb)))) (qza rfl (qza rfl (qza (by simp [put]) qzb))) (qza rfl qzb), Nat.succ_pos _⟩
             | no ds gs i3 ts3 =>
               obtain ⟨hA3, hS, hn, hK⟩ := hq
               dsimp only [tywF, qqs]
               simp only [go_sem, push_cast, seval]
               refine ⟨_, T, i3, ts3, deep, 0, a, rfl, rfl, hA3, .inl ⟨rfl, qze hK (fun p' c hc hE _ i' ts' hb' hA' => ?_) (fun _ ts4 i4 e hK hA4 => ?_)⟩⟩
               · simp only [go_sem, push_cast, seval]
                 exact ⟨_, qzc (qzd (qzn hS)), hE (.node 1 t 0 at_ (s :: acc ++ gs)) i' trivial ⟨ts', hA'⟩⟩
               · simp only [go_sem, push_cast, seval]
                 exact ⟨_, qzc (qzd (qzn hS)), hK i4 hA4⟩
             | bad ds gs i3 c p' =>
               obtain ⟨hc, ⟨ts', hA'⟩, hS, hE⟩ := hq
               dsimp only [tywF, qqs]
               simp only [go_sem, push_cast, seval]
               refine ⟨_, T, i3, ts', deep, c, p', rfl, rfl, hA', .inr ⟨hc, fun _ _ => ?_⟩⟩
               simp only [go_sem, push_cast, seval]
               exact ⟨_, qzc (qzd (qzn hS)), hE (.node 1 t 0 at_ (s :: acc ++ gs)) i3 trivial ⟨ts', hA'⟩⟩
           · rw [zzk h] at hK
             simp only [go_sem, push_cast, seval]
             refine qzk (T := Unit) (fun _ => qqs T deep t 0 at_ 9 false ds i3 0 a) (fun _ => 0) ()
              (zsub (qza rfl (qza rfl (qza rfl (qza rfl qzb)))) (qza rfl (qza rfl (qza rfl qzb))) (qza rfl qzb)) ?_
             rintro ⟨⟩
             dsimp only [qqs]
             simp only [go_sem, push_cast, seval]
             refine ⟨_, T, i3, ts3, deep, 0, a, rfl, rfl, hA3, .inl ⟨rfl, qze hK (fun p' c hc hE _ i' ts' hb' hA' => ?_) (fun _ ts4 i4 e hK hA4 => ?_)⟩⟩
             · simp only [go_sem, push_cast, seval]
               exact ⟨_, qzc (qzd (qzn hS)), hE (.node 1 t 0 at_ (s :: acc)) i' trivial ⟨ts', hA'⟩⟩
             · simp only [go_sem, push_cast, seval]
               refine ⟨_, qzc (qzd (qzn hS)), ?_⟩
               have := hK i4 hA4
               rw [show Tree.withKids (Tree.kids (.node 1 t 0 at_ (s :: acc)) ++ []) (.node 1 t 0 at_ (s :: acc)) = .node 1 t 0 at_ (s :: acc) by simp [Tree.withKids, Tree.kids]] at this
               exact this
         | bad ds acc i3 c p' =>
           obtain ⟨hc, ⟨ts', hA'⟩, hS, hE⟩ := hq
           dsimp only [typF, qqs]
           simp only [go_sem, push_cast, seval]
           refine ⟨T, i3, ts', deep, c, p', _, rfl, rfl, hA', .inr ⟨hc, ?_⟩⟩
           simp only [go_sem, push_cast, seval]
           refine qzk (T := Unit) (fun _ => qqs T deep t 0 at_ 9 false ds i3 c p') (fun _ => 0) ()
            (zsub (qza rfl (qza rfl (qza rfl (qza rfl qzb)))) (qza rfl (qza rfl (qza rfl qzb))) (qza rfl qzb)) ?_
           rintro ⟨⟩
           dsimp only [qqs]
           simp only [go_sem, push_cast, seval]
           refine ⟨_, T, i3, ts', deep, c, p', rfl, rfl, hA', .inr ⟨hc, fun _ _ => ?_⟩⟩
           simp only [go_sem, push_cast, seval]
           exact ⟨_, qzc (qzd (qzn hS)), hE (.node 1 t 0 at_ (s :: acc)) i3 trivial ⟨ts', hA'⟩⟩
       · rw [if_neg (qzf h)] at hK
         simp only [go_sem, push_cast, seval]
         refine qzk (T := TypT T deep a Kr t at_ s) (fun q => typF T deep a t at_ q.val) (fun q => typM q.val) ⟨.no [expD s] [] i2 ts2, hA2, hS0, by show 0 + ts2.length ≤ 2097152; omega, hK⟩
          (zsub (qza rfl (qza rfl (qza rfl (qza rfl qzb)))) (qza rfl (qza rfl (qza rfl qzb))) (qza rfl qzb)) ?_
         rintro ⟨q, hq⟩
         cases q with
         | yes ds acc i3 ts3 =>
           obtain ⟨hA3, hS, hn, hK⟩ := hq
           dsimp only [typF, qqs]
           simp only [go_sem, push_cast, seval]
           have hl := hS.len
           rw [List.length_cons] at hl
           refine ⟨T, i3, ts3, deep, 0, a, rfl, rfl, hA3, .inl ⟨rfl, qze hK (fun p' c hc hE x i' ts' hb' hA' => ?_) (fun x ts4 i4 e hK hA4 => ?_)⟩⟩
           · simp only [go_sem, push_cast, seval]
             refine ⟨by omega, by omega, ?_⟩
             (refine ⟨T, i', ts', deep, c, p', _, rfl, rfl, hA', .inr ⟨hc, ?_⟩⟩; simp only [go_sem, push_cast, seval])
             (refine ⟨_, T, i', ts', deep, c, p', rfl, rfl, hA', .inr ⟨hc, fun _ _ => ?_⟩⟩; simp only [go_sem, push_cast, seval])
             exact ⟨⟨.bad (ds ++ [expD x]) (acc ++ [x]) i' c p', hc, ⟨ts', hA'⟩, hS.snoc (qzi x), hE⟩, zsub (qza rfl (qza rfl (qza rfl (qza rfl qzb)))) (qza rfl (qza rfl (qza (by simp [put]) qzb))) (qza rfl qzb), Nat.succ_pos _⟩
           · have h1 := Lg.zq8 _ _ _ e
             simp only [go_sem, push_cast, seval]
             refine ⟨by omega, by omega, ?_⟩
             refine ⟨T, i4, ts4, deep, 0, a, Lg.sComma, rfl, rfl, hA4, .inl ⟨rfl, fun h => ?_, fun h => ?_⟩⟩
             · rw [qqr Lg.zq8 h] at hK
               simp only [go_sem, push_cast, seval]
               exact ⟨⟨.yes (ds ++ [expD x]) (acc ++ [x]) (i4 + 1) ts4.tail, hA4.isT h, hS.snoc (qzi x), by rw [List.length_append, List.length_singleton, List.length_tail]; omega, hK⟩, zsub (qza rfl (qza rfl (qza rfl (qza rfl qzb)))) (qza rfl (qza rfl (qza (by simp [put]) qzb))) (qza rfl qzb), by show ts4.tail.length + 1 < ts3.length + 1; rw [List.length_tail]; omega⟩
             · rw [qxg h] at hK
               simp only [go_sem, push_cast, seval]
               refine ⟨_, T, i4, ts4, deep, 0, a, rfl, rfl, hA4, .inl ⟨rfl, qze hK (fun p' c hc hE _ i' ts' hb' hA' => ?_) (fun _ ts5 i5 e hK hA5 => ?_)⟩⟩
               · simp only [go_sem, push_cast, seval]
                 exact ⟨⟨.bad (ds ++ [expD x]) (acc ++ [x]) i' c p', hc, ⟨ts', hA'⟩, hS.snoc (qzi x), hE⟩, zsub (qza rfl (qza rfl (qza rfl (qza rfl qzb)))) (qza rfl (qza rfl (qza (by simp [put]) qzb))) (qza rfl qzb), Nat.succ_pos _⟩
               · have h2 := Lg.qqc _ _ _ _ e
                 simp only [go_sem, push_cast, seval]
                 exact ⟨⟨.no (ds ++ [expD x]) (acc ++ [x]) i5 ts5, hA5, hS.snoc (qzi x), by rw [List.length_append, List.length_singleton]; omega, hK⟩, zsub (qza rfl (qza rfl (qza rfl (qza rfl qzb)))) (qza rfl (qza rfl (qza (by simp [put]) qzb))) (qza rfl qzb), Nat.succ_pos _⟩
         | no ds acc i3 ts3 =>
           obtain ⟨hA3, hS, hn, hK⟩ := hq
           dsimp only [typF, qqs]
           simp only [go_sem, push_cast, seval]
           refine ⟨T, i3, ts3, deep, 0, a, Lg.sWhere, rfl, rfl, hA3, .inl ⟨rfl, fun h => ?_, fun h => ?_⟩⟩
           · rw [qwu h] at hK
             simp only [go_sem, push_cast, seval]
             refine qzk (T := TywT T deep a Kr t at_ (s :: acc)) (fun q => tywF T deep a t at_ q.val) (fun q => typM q.val) ⟨.yes ds [] (i3 + 1) ts3.tail, hA3.isT h, by rw [List.append_nil]; exact hS, by rw [List.append_nil, List.length_cons, List.length_tail]; omega, hK⟩
              (zsub (qza rfl (qza rfl (qza rfl (qza rfl qzb)))) (qza rfl (qza rfl (qza rfl qzb))) (qza rfl qzb)) ?_
             rintro ⟨q, hq⟩
             cases q with
             | yes ds gs i3 ts3 =>
               obtain ⟨hA3, hS, hn, hK⟩ := hq
               dsimp only [tywF, qqs]
               simp only [go_sem, push_cast, seval]
               have hl := hS.len
               refine ⟨T, i3, ts3, deep, 0, a, rfl, rfl, hA3, .inl ⟨rfl, qze hK (fun p' c hc hE x i' ts' hb' hA' => ?_) (fun x ts4 i4 e hK hA4 => ?_)⟩⟩
               · simp only [go_sem, push_cast, seval]
                 refine ⟨by omega, by omega, ?_⟩
                 (refine ⟨T, i', ts', deep, c, p', _, rfl, rfl, hA', .inr ⟨hc, ?_⟩⟩; simp only [go_sem, push_cast, seval])
                 exact ⟨⟨.bad (ds ++ [zz8 x]) (gs ++ [x]) i' c p', hc, ⟨ts', hA'⟩, by rw [← List.append_assoc]; exact hS.snoc (qwo x), hE⟩, zsub (qza rfl (qza rfl (qza rfl (qza rfl qzb)))) (qza rfl (qza rfl (qza (by simp [put]) qzb))) (qza rfl qzb), Nat.succ_pos _⟩
               · have h1 := Lg.zqa _ _ _ e
                 simp only [go_sem, push_cast, seval]
                 refine ⟨by omega, by omega, ?_⟩
                 refine ⟨T, i4, ts4, deep, 0, a, Lg.sComma, rfl, rfl, hA4, .inl ⟨rfl, fun h => ?_, fun h => ?_⟩⟩
                 · rw [qqr Lg.zqa h] at hK
                   simp only [go_sem, push_cast, seval]
                   exact ⟨⟨.yes (ds ++ [zz8 x]) (gs ++ [x]) (i4 + 1) ts4.tail, hA4.isT h, by rw [← List.append_assoc]; exact hS.snoc (qwo x), by rw [← List.append_assoc, List.length_append, List.length_singleton, List.length_tail]; omega, hK⟩, zsub (qza rfl (qza rfl (qza rfl (qza rfl qzb)))) (qza rfl (qza rfl (qza (by simp [put]) qzb))) (qza rfl qzb), by show ts4.tail.length + 1 < ts3.length + 1; rw [List.length_tail]; omega⟩
                 · rw [qxg h] at hK
                   simp only [go_sem, push_cast, seval]
                   exact ⟨⟨.no (ds ++ [zz8 x]) (gs ++ [x]) i4 ts4, hA4, by rw [← List.append_assoc]; exact hS.snoc (qwo x), by rw [← List.append_assoc, List.length_append, List.length_singleton]; omega, hK⟩, zsub (qza rfl (qza rfl (qza rfl (qza rfl qzb)))) (qza rfl (qza rfl (qza (by simp [put]) qzb))) (qza rfl qzb), Nat.succ_pos _⟩
             | no ds gs i3 ts3 =>
               obtain ⟨hA3, hS, hn, hK⟩ := hq
               dsimp only [tywF, qqs]
               simp only [go_sem, push_cast, seval]
               refine ⟨_, T, i3, ts3, deep, 0, a, rfl, rfl, hA3, .inl ⟨rfl, qze hK (fun p' c hc hE _ i' ts' hb' hA' => ?_) (fun _ ts4 i4 e hK hA4 => ?_)⟩⟩
               · simp only [go_sem, push_cast, seval]
                 exact ⟨_, qzc (qzd (qzn hS)), hE (.node 1 t 0 at_ (s :: acc ++ gs)) i' trivial ⟨ts', hA'⟩⟩
               · simp only [go_sem, push_cast, seval]
                 exact ⟨_, qzc (qzd (qzn hS)), hK i4 hA4⟩
             | bad ds gs i3 c p' =>
               obtain ⟨hc, ⟨ts', hA'⟩, hS, hE⟩ := hq
               dsimp only [tywF, qqs]
               simp only [go_sem, push_cast, seval]
               refine ⟨_, T, i3, ts', deep, c, p', rfl, rfl, hA', .inr ⟨hc, fun _ _ => ?_⟩⟩
               simp only [go_sem, push_cast, seval]
               exact ⟨_, qzc (qzd (qzn hS)), hE (.node 1 t 0 at_ (s :: acc ++ gs)) i3 trivial ⟨ts', hA'⟩⟩
           · rw [zzk h] at hK
             simp only [go_sem, push_cast, seval]
             refine qzk (T := Unit) (fun _ => qqs T deep t 0 at_ 9 false ds i3 0 a) (fun _ => 0) ()
              (zsub (qza rfl (qza rfl (qza rfl (qza rfl qzb)))) (qza rfl (qza rfl (qza rfl qzb))) (qza rfl qzb)) ?_
             rintro ⟨⟩
             dsimp only [qqs]
             simp only [go_sem, push_cast, seval]
             refine ⟨_, T, i3, ts3, deep, 0, a, rfl, rfl, hA3, .inl ⟨rfl, qze hK (fun p' c hc hE _ i' ts' hb' hA' => ?_) (fun _ ts4 i4 e hK hA4 => ?_)⟩⟩
             · simp only [go_sem, push_cast, seval]
               exact ⟨_, qzc (qzd (qzn hS)), hE (.node 1 t 0 at_ (s :: acc)) i' trivial ⟨ts', hA'⟩⟩
             · simp only [go_sem, push_cast, seval]
               refine ⟨_, qzc (qzd (qzn hS)), ?_⟩
               have := hK i4 hA4
               rw [show Tree.withKids (Tree.kids (.node 1 t 0 at_ (s :: acc)) ++ []) (.node 1 t 0 at_ (s :: acc)) = .node 1 t 0 at_ (s :: acc) by simp [Tree.withKids, Tree.kids]] at this
               exact this
         | bad ds acc i3 c p' =>
           obtain ⟨hc, ⟨ts', hA'⟩, hS, hE⟩ := hq
           dsimp only [typF, qqs]
           simp only [go_sem, push_cast, seval]
           refine ⟨T, i3, ts', deep, c, p', _, rfl, rfl, hA', .inr ⟨hc, ?_⟩⟩
           simp only [go_sem, push_cast, seval]
           refine qzk (T := Unit) (fun _ => qqs T deep t 0 at_ 9 false ds i3 c p') (fun _ => 0) ()
            (zsub (qza rfl (qza rfl (qza rfl (qza rfl qzb)))) (qza rfl (qza rfl (qza rfl qzb))) (qza rfl qzb)) ?_
           rintro ⟨⟩
           dsimp only [qqs]
           simp only [go_sem, push_cast, seval]
           refine ⟨_, T, i3, ts', deep, c, p', rfl, rfl, hA', .inr ⟨hc, fun _ _ => ?_⟩⟩
           simp only [go_sem, push_cast, seval]
           exact ⟨_, qzc (qzd (qzn hS)), hE (.node 1 t 0 at_ (s :: acc)) i3 trivial ⟨ts', hA'⟩⟩
 · (refine ⟨T, i, ts, deep, fl, a, rfl, rfl, hA, .inr ⟨hf, fun v hy_v => ?_⟩⟩; simp only [go_sem, push_cast, seval])
   (refine ⟨T, i, ts, deep, fl, a, rfl, rfl, hA, .inr ⟨hf, fun s hy_s => ?_⟩⟩; simp only [go_sem, push_cast, seval])
   (refine ⟨T, i, ts, deep, fl, a, _, rfl, rfl, hA, .inr ⟨hf, ?_⟩⟩; simp only [go_sem, push_cast, seval])
   refine qzk (T := Unit) (fun _ => qqs T deep v.text v.num at_ 7 false [expD s] i fl a) (fun _ => 0) ()
    (zsub (qza rfl (qza rfl (qza rfl (qza rfl qzb)))) (qza rfl (qza rfl (qza rfl qzb))) (qza rfl qzb)) ?_
   rintro ⟨⟩
   dsimp only [qqs]
   simp only [go_sem, push_cast, seval]
   (refine ⟨T, i, ts, deep, fl, a, _, rfl, rfl, hA, .inr ⟨hf, ?_⟩⟩; simp only [go_sem, push_cast, seval])
   refine qzk (T := Unit) (fun _ => qqs T deep v.text v.num at_ 9 false [expD s] i fl a) (fun _ => 0) ()
    (zsub (qza rfl (qza rfl (qza rfl (qza rfl qzb)))) (qza rfl (qza rfl (qza rfl qzb))) (qza rfl qzb)) ?_
   rintro ⟨⟩
   dsimp only [qqs]
   simp only [go_sem, push_cast, seval]
   (refine ⟨_, T, i, ts, deep, fl, a, rfl, rfl, hA, .inr ⟨hf, fun _ _ => ?_⟩⟩; simp only [go_sem, push_cast, seval])
   exact ⟨_, qzc (qzd (qzn (ts := [s]) (.cons (qzi s) .nil))), hK (.node 1 v.text v.num at_ [s]) trivial⟩
end Lx
