import Derived.Test.YtdfhdhoofofenaaGreatDoorA32
import Derived.Test.YtdfhdhoofofenaaGreatDoorA40
import Derived.Test.YtdfhdhoofofenaaGreatDoorA41
import Derived.Test.YtdfhdhoofofenaaGreatDoorA42
set_option linter.unusedSimpArgs false
set_option linter.unusedVariables false
set_option maxRecDepth 20000
namespace Lx
open Go
open Lg (Tok Tree)
open Go.Proofs (Tryz.prog)
open Go.Proofs.Tryz
def itQ (Kr : LV → Bx → Ar1 → Prop) (acc : List Tree) : Lg.PR (List Tree) → Prop
 | .ok (xs, _) => outT Kr (acc ++ xs)
 | .error (p, c) => c ≠ 0 → outE Kr p c
theorem qj7 {α : Type} {T : List Tok} {a : Int} {Kr : LV → Bx → Ar1 → Prop} {acc : List Tree} {bad' : α → Prop} {res' : α → LV} {Kr' : LV → Bx → Ar1 → Prop} {x : Lg.PR α} {k : α → List Tok → Lg.PR (List Tree)} (hK : itQ Kr acc (Lg.bnd x k))
  (herr : ∀ p c, c ≠ 0 → outE Kr p c → ∀ y i ts', bad' y → At T i ts' → Kr' (res' y) (put 1000 (rbx T i 0 c p) nix) none)
  (hok : ∀ v ts' i, x = .ok (v, ts') → itQ Kr acc (k v ts') → At T i ts' → Kr' (res' v) (put 1000 (rbx T i 0 0 a) nix) none) : refQ T 0 a bad' res' Kr' x := by
 cases x with
 | error q => exact fun hc y i hb ⟨ts', hA⟩ => herr q.1 q.2 hc (hK hc) y i ts' hb hA
 | ok q => exact fun i hA => hok q.1 q.2 i rfl hK hA
theorem qk4 {Kr : LV → Bx → Ar1 → Prop} {acc : List Tree} {x : Tree} {r : Lg.PR (List Tree)} (h : itQ Kr acc (Lg.bnd r fun xs ts'' => .ok (x :: xs, ts''))) : itQ Kr (acc ++ [x]) r := by
 cases r with
 | error q => exact h
 | ok q =>
   show outT Kr (acc ++ [x] ++ q.1)
   rw [List.append_assoc]
   exact h
theorem qwn {ts : List Tok} (h : (Lg.hd ts).kind ≠ 0) : Lg.zz5 ts = Lg.bnd (Lg.item ts) fun x ts' => Lg.bnd (Lg.zz5 ts') fun xs ts'' => .ok (x :: xs, ts'') := by
 rw [Lg.zz5, if_neg h]
 cases h1 : Lg.item ts with
 | error q => rfl
 | ok q =>
   obtain ⟨x, ts'⟩ := q
   have h2 := Lg.zkj _ _ _ h1
   show (if ts'.length < ts.length then _ else _) = _
   rw [if_pos h2]
   rfl
abbrev itSt (T : List Tok) (d : Nat) (ds : List D) (i : Nat) (fl p : Int) : S :=
 ⟨108, put 2 (.bp 2 0) (put 8 (.bp 28 0) (put 9 (.bp 9 0) nix)), put 28 (rbx T i 0 fl p) (put 2 ⟨qkg, 37⟩ (put 9 ⟨[.d (.int .i64 0), .d (.st []), .d (.int .i64 0), .d (.int .i64 0), bkLV d ds], 37⟩ nix)), bkAr d ds⟩
inductive ItQ where
 | go (d : Nat) (ds : List D) (acc : List Tree) (i : Nat) (ts : List Tok)
 | bad (d : Nat) (ds : List D) (acc : List Tree) (i : Nat) (c p : Int)
def itM : ItQ → Nat
 | .go _ _ _ _ ts => ts.length + 1
 | .bad _ _ _ _ _ _ => 0
def itOk (T : List Tok) (Kr : LV → Bx → Ar1 → Prop) : ItQ → Prop
 | .go d ds acc i ts => (d = 70 ∨ d = 86) ∧ At T i ts ∧ qxl ds acc ∧ Lg.sizes acc + 3 * ts.length ≤ 6291456 ∧ itQ Kr acc (Lg.zz5 ts)
 | .bad d ds acc i c p => (d = 70 ∨ d = 86) ∧ c ≠ 0 ∧ (∃ ts, At T i ts) ∧ qxl ds acc ∧ acc.length ≤ 6291457 ∧ outE Kr p c
def itF (T : List Tok) : ItQ → S
 | .go d ds _ i _ => itSt T d ds i 0 0
 | .bad d ds _ i c p => itSt T d ds i c p
set_option maxHeartbeats 32000000 in
theorem rparse_OK : OK Tryz.prog 7 qwy := by
 refine fn_OK' qzu (E := EV) (sp := spL [(22, toksS), (23, rhas), (24, rfn), (25, qw3), (26, rtyp), (27, (zjx 9223372036854775807))]) qzt qzm (OKs.ok ⟨rtoks_OK, ⟨qq8, ⟨rfn_OK, ⟨qxi, ⟨rtyp_OK, ⟨(zwi 9223372036854775807 (by decide)), trivial⟩⟩⟩⟩⟩⟩) func7 rfl ntmps7 results7 call7 [] none ?_
 rintro ys bx Kr Kp ⟨l, rfl, hK⟩
 refine ⟨[], rfl, trivial, by simp, ?_⟩
 simp only [go_sem, push_cast, seval]
 refine ⟨l, rfl, ?_⟩
 unfold Lg.parse at hK
 cases htk : Lg.toks l with
 | error q =>
   obtain ⟨p, c⟩ := q
   rw [htk] at hK
   intro hc
   have hc' : (c != 0) = true := by simpa using hc
   simp only [hc', go_sem, push_cast, seval]
   exact ⟨_, .cons (qzd qqd) (.cons (.rfl _) (.cons (.rfl _) .nil)), hK⟩
 | ok T =>
   rw [htk] at hK
   intro hg
   have hT : At T 0 T := ⟨rfl, hg, hg.2, (toks_key htk).1⟩
   have hK2 : itQ Kr [] (Lg.zz5 T) := by
    have hK' : (match Lg.qxs T with | .ok t => Kr (.tup [.d (qzl t), .d (.int .i64 0), .d (.int .i64 0)]) nix none | .error (a, c) => outE Kr a c) := hK
    unfold Lg.qxs at hK'
    cases hit : Lg.zz5 T with
    | error p => obtain ⟨a, c⟩ := p; rw [hit] at hK'; exact fun _ => hK'
    | ok p =>
      obtain ⟨xs, ts'⟩ := p
      rw [hit] at hK'
      show outT Kr xs
      unfold outT
      simp only at hK'
      split
      · rename_i h; rw [if_pos h] at hK'; exact hK'
      · rename_i h; rw [if_neg h] at hK'; exact hK'
   clear hK
   simp only [go_sem, push_cast, seval]
   refine qzk (T := { q : ItQ // itOk T Kr q }) (fun q => itF T q.val) (fun q => itM q.val) ⟨.go 70 [] [] 0 T, .inl rfl, hT, .nil, by have := hg.2; show 0 + 3 * T.length ≤ 6291456; omega, hK2⟩
    (zsub (qza rfl (qza rfl (qza rfl qzb))) (qza rfl (qza rfl (qza rfl qzb))) qzb) ?_
   rintro ⟨q, hq⟩
   cases q with
   | go dd ds acc i3 ts3 =>
     obtain ⟨hd, hA3, hS, hn, hK⟩ := hq
     cases ds with
     | nil =>
       rcases hd with rfl | rfl
       all_goals
        dsimp only [itF, itSt, bkLV, bkAr]
        have hl := hS.len
        have hz := qjv acc
        simp only [rbx, go_sem, push_cast, seval]
        refine qz1 (by kernel_rfl) ?_
        simp only [rbx, List.length_map, Int.toNat_natCast, hA3.i0, hA3.i1, hA3.get, tokD, go_sem, push_cast, seval]
        cases hk0 : (Lg.hd ts3).kind == 0 with
        | true =>
          rw [Lg.zz5, if_pos (eq_of_beq hk0)] at hK
          have hk1 : ((Lg.hd ts3).kind != 0) = false := by simp [bne, hk0]
          simp only [hk1, rbx, go_sem, push_cast, seval]
          have hK2 : outT Kr acc := by have this : outT Kr (acc ++ []) := hK; rw [List.append_nil] at this; exact this
          unfold outT at hK2
          refine ⟨_, .node 0 [] 0 0 acc, rfl, qzd (by cases acc with | nil => exact .nil _ _ | cons y l => cases hS), by rw [Lg.qzx]; omega, ?_⟩
          simp only [go_sem, push_cast, seval]
          refine ⟨fun h => ?_, fun h => ?_⟩
          · rw [if_pos (by have := of_decide_eq_true h; omega)] at hK2
            exact ⟨_, .cons (qzd qqd) (.cons (.rfl _) (.cons (.rfl _) .nil)), hK2⟩
          · rw [if_neg (by have := of_decide_eq_false h; omega)] at hK2
            exact ⟨_, .cons (qzd (by cases acc with | nil => exact .nil _ _ | cons y l => cases hS)) (.cons (.rfl _) (.cons (.rfl _) .nil)), hK2⟩
        | false =>
          have hk1 : ((Lg.hd ts3).kind != 0) = true := by simp [bne, hk0]
          rw [qwn (by simpa using hk0)] at hK
          simp only [hk1, rbx, go_sem, push_cast, seval]
          refine qz1 (by kernel_rfl) ?_
          simp only [rbx, List.length_map, Int.toNat_natCast, hA3.i0, hA3.i1, hA3.get, tokD, go_sem, push_cast, seval]
          refine ⟨T, i3, ts3, 0, 0, 0, Lg.sFn, rfl, rfl, hA3, .inl ⟨rfl, fun h => ?_, fun h => ?_⟩⟩
          · have hit : Lg.item ts3 = Lg.fn (Lg.hd ts3).pos ts3.tail := by unfold Lg.item; rw [if_pos h]
            simp only [go_sem, push_cast, seval]
            refine ⟨(Lg.hd ts3).pos, T, i3 + 1, ts3.tail, 0, rfl, rfl, hA3.isT h, ?_⟩
            rw [← hit]
            refine qj7 hK (fun p' c hc hE x i' ts' hb' hA' => ?_) (fun x ts4 i4 e hK hA4 => ?_)
            · simp only [go_sem, push_cast, seval]
              exact ⟨⟨.bad 70 ([] ++ [exD x]) (acc ++ [x]) i' c p', Or.inl rfl, hc, ⟨ts', hA'⟩, hS.snoc (qzi x), by rw [List.length_append, List.length_singleton]; omega, hE⟩, zsub (qza rfl (qza rfl (qza rfl qzb))) (qza rfl (qza rfl (qza rfl qzb))) (qza rfl qzb), Nat.succ_pos _⟩
            · have h1 := Lg.zkj _ _ _ e
              have h2 := Lg.item_pay _ _ _ e
              simp only [go_sem, push_cast, seval]
              exact ⟨⟨.go 70 ([] ++ [exD x]) (acc ++ [x]) i4 ts4, Or.inl rfl, hA4, hS.snoc (qzi x), by rw [qqg]; omega, qk4 hK⟩, zsub (qza rfl (qza rfl (qza rfl qzb))) (qza rfl (qza rfl (qza rfl qzb))) (qza rfl qzb), by show ts4.length + 1 < ts3.length + 1; omega⟩
          · have hit : Lg.item ts3 = Lg.bnd (Lg.must Lg.sType ts3) fun _ ts' => Lg.typ (Lg.hd ts3).pos ts' := by unfold Lg.item; rw [if_neg (qzf h)]
            have hit2 : ∀ x ts4, Lg.item ts3 = .ok (x, ts4) → ts4.length < ts3.length ∧ Lg.size x + 3 * ts4.length ≤ 3 * ts3.length := fun x ts4 e => ⟨Lg.zkj _ _ _ e, Lg.item_pay _ _ _ e⟩
            rw [hit] at hit2
            rw [hit, bnd3] at hK
            simp only [go_sem, push_cast, seval]
            refine ⟨_, T, i3, ts3, 0, 0, 0, rfl, rfl, hA3, .inl ⟨rfl, qj7 hK (fun p' c hc hE _ i' ts' hb' hA' => ?_) (fun _ ts5 i5 e5 hK hA5 => ?_)⟩⟩
            · have hc' : (c == 0) = false := by simpa using hc
              simp only [rbx, hc', go_sem, push_cast, seval]
              exact ⟨⟨.bad 70 [] acc i' c p', Or.inl rfl, hc, ⟨ts', hA'⟩, hS, by omega, hE⟩, zsub (qza rfl (qza rfl (qza rfl qzb))) (qza rfl (qza rfl (qza rfl qzb))) qzb, Nat.succ_pos _⟩
            · simp only [rbx, go_sem, push_cast, seval]
              refine ⟨(Lg.hd ts3).pos, T, i5, ts5, 0, 0, 0, rfl, rfl, hA5, .inl ⟨rfl, qj7 hK (fun p' c hc hE x i' ts' hb' hA' => ?_) (fun x ts4 i4 e hK hA4 => ?_)⟩⟩
              · simp only [go_sem, push_cast, seval]
                exact ⟨⟨.bad 86 ([] ++ [exD x]) (acc ++ [x]) i' c p', Or.inr rfl, hc, ⟨ts', hA'⟩, hS.snoc (qzi x), by rw [List.length_append, List.length_singleton]; omega, hE⟩, zsub (qza rfl (qza rfl (qza rfl qzb))) (qza rfl (qza rfl (qza rfl qzb))) (qza rfl qzb), Nat.succ_pos _⟩
              · obtain ⟨h1, h2⟩ := hit2 x ts4 (by rw [show Lg.must Lg.sType ts3 = _ from e5]; exact e)
                simp only [go_sem, push_cast, seval]
                exact ⟨⟨.go 86 ([] ++ [exD x]) (acc ++ [x]) i4 ts4, Or.inr rfl, hA4, hS.snoc (qzi x), by rw [qqg]; omega, qk4 hK⟩, zsub (qza rfl (qza rfl (qza rfl qzb))) (qza rfl (qza rfl (qza rfl qzb))) (qza rfl qzb), by show ts4.length + 1 < ts3.length + 1; omega⟩
     | cons d ds =>
       rcases hd with rfl | rfl
       ·
        dsimp only [itF, itSt, bkLV, bkAr]
        have hl := hS.len
        have hz := qjv acc
        simp only [rbx, go_sem, push_cast, seval]
        refine qz1 (by kernel_rfl) ?_
        simp only [rbx, List.length_map, Int.toNat_natCast, hA3.i0, hA3.i1, hA3.get, tokD, go_sem, push_cast, seval]
        cases hk0 : (Lg.hd ts3).kind == 0 with
        | true =>
          rw [Lg.zz5, if_pos (eq_of_beq hk0)] at hK
          have hk1 : ((Lg.hd ts3).kind != 0) = false := by simp [bne, hk0]
          simp only [hk1, rbx, go_sem, push_cast, seval]
          have hK2 : outT Kr acc := by have this : outT Kr (acc ++ []) := hK; rw [List.append_nil] at this; exact this
          unfold outT at hK2
          refine ⟨_, .node 0 [] 0 0 acc, rfl, qzd (qzn hS), by rw [Lg.qzx]; omega, ?_⟩
          simp only [go_sem, push_cast, seval]
          refine ⟨fun h => ?_, fun h => ?_⟩
          · rw [if_pos (by have := of_decide_eq_true h; omega)] at hK2
            exact ⟨_, .cons (qzd qqd) (.cons (.rfl _) (.cons (.rfl _) .nil)), hK2⟩
          · rw [if_neg (by have := of_decide_eq_false h; omega)] at hK2
            exact ⟨_, .cons (qzd (qzn hS)) (.cons (.rfl _) (.cons (.rfl _) .nil)), hK2⟩
        | false =>
          have hk1 : ((Lg.hd ts3).kind != 0) = true := by simp [bne, hk0]
          rw [qwn (by simpa using hk0)] at hK
          simp only [hk1, rbx, go_sem, push_cast, seval]
          refine qz1 (by kernel_rfl) ?_
          simp only [rbx, List.length_map, Int.toNat_natCast, hA3.i0, hA3.i1, hA3.get, tokD, go_sem, push_cast, seval]
          refine ⟨T, i3, ts3, 0, 0, 0, Lg.sFn, rfl, rfl, hA3, .inl ⟨rfl, fun h => ?_, fun h => ?_⟩⟩
          · have hit : Lg.item ts3 = Lg.fn (Lg.hd ts3).pos ts3.tail := by unfold Lg.item; rw [if_pos h]
            simp only [go_sem, push_cast, seval]
            refine ⟨(Lg.hd ts3).pos, T, i3 + 1, ts3.tail, 0, rfl, rfl, hA3.isT h, ?_⟩
            rw [← hit]
            refine qj7 hK (fun p' c hc hE x i' ts' hb' hA' => ?_) (fun x ts4 i4 e hK hA4 => ?_)
            · simp only [go_sem, push_cast, seval]
              refine ⟨by simp only [List.length_cons] at hl; omega, by simp only [List.length_cons] at hl; omega, ?_⟩
              exact ⟨⟨.bad 70 ((d :: ds) ++ [exD x]) (acc ++ [x]) i' c p', Or.inl rfl, hc, ⟨ts', hA'⟩, hS.snoc (qzi x), by rw [List.length_append, List.length_singleton]; omega, hE⟩, zsub (qza rfl (qza rfl (qza rfl qzb))) (qza rfl (qza rfl (qza (by simp [put, bkLV]) qzb))) (qza rfl qzb), Nat.succ_pos _⟩
            · have h1 := Lg.zkj _ _ _ e
              have h2 := Lg.item_pay _ _ _ e
              simp only [go_sem, push_cast, seval]
              refine ⟨by simp only [List.length_cons] at hl; omega, by simp only [List.length_cons] at hl; omega, ?_⟩
              exact ⟨⟨.go 70 ((d :: ds) ++ [exD x]) (acc ++ [x]) i4 ts4, Or.inl rfl, hA4, hS.snoc (qzi x), by rw [qqg]; omega, qk4 hK⟩, zsub (qza rfl (qza rfl (qza rfl qzb))) (qza rfl (qza rfl (qza (by simp [put, bkLV]) qzb))) (qza rfl qzb), by show ts4.length + 1 < ts3.length + 1; omega⟩
          · have hit : Lg.item ts3 = Lg.bnd (Lg.must Lg.sType ts3) fun _ ts' => Lg.typ (Lg.hd ts3).pos ts' := by unfold Lg.item; rw [if_neg (qzf h)]
            have hit2 : ∀ x ts4, Lg.item ts3 = .ok (x, ts4) → ts4.length < ts3.length ∧ Lg.size x + 3 * ts4.length ≤ 3 * ts3.length := fun x ts4 e => ⟨Lg.zkj _ _ _ e, Lg.item_pay _ _ _ e⟩
            rw [hit] at hit2
            rw [hit, bnd3] at hK
            simp only [go_sem, push_cast, seval]
            refine ⟨_, T, i3, ts3, 0, 0, 0, rfl, rfl, hA3, .inl ⟨rfl, qj7 hK (fun p' c hc hE _ i' ts' hb' hA' => ?_) (fun _ ts5 i5 e5 hK hA5 => ?_)⟩⟩
            · have hc' : (c == 0) = false := by simpa using hc
              simp only [rbx, hc', go_sem, push_cast, seval]
              exact ⟨⟨.bad 70 (d :: ds) acc i' c p', Or.inl rfl, hc, ⟨ts', hA'⟩, hS, by omega, hE⟩, zsub (qza rfl (qza rfl (qza rfl qzb))) (qza rfl (qza rfl (qza rfl qzb))) (qza rfl qzb), Nat.succ_pos _⟩
            · simp only [rbx, go_sem, push_cast, seval]
              refine ⟨(Lg.hd ts3).pos, T, i5, ts5, 0, 0, 0, rfl, rfl, hA5, .inl ⟨rfl, qj7 hK (fun p' c hc hE x i' ts' hb' hA' => ?_) (fun x ts4 i4 e hK hA4 => ?_)⟩⟩
              · simp only [go_sem, push_cast, seval]
                refine ⟨by simp only [List.length_cons] at hl; omega, by simp only [List.length_cons] at hl; omega, ?_⟩
                exact ⟨⟨.bad 70 ((d :: ds) ++ [exD x]) (acc ++ [x]) i' c p', Or.inl rfl, hc, ⟨ts', hA'⟩, hS.snoc (qzi x), by rw [List.length_append, List.length_singleton]; omega, hE⟩, zsub (qza rfl (qza rfl (qza rfl qzb))) (qza rfl (qza rfl (qza (by simp [put, bkLV]) qzb))) (qza rfl qzb), Nat.succ_pos _⟩
              · obtain ⟨h1, h2⟩ := hit2 x ts4 (by rw [show Lg.must Lg.sType ts3 = _ from e5]; exact e)
                simp only [go_sem, push_cast, seval]
                refine ⟨by simp only [List.length_cons] at hl; omega, by simp only [List.length_cons] at hl; omega, ?_⟩
                exact ⟨⟨.go 70 ((d :: ds) ++ [exD x]) (acc ++ [x]) i4 ts4, Or.inl rfl, hA4, hS.snoc (qzi x), by rw [qqg]; omega, qk4 hK⟩, zsub (qza rfl (qza rfl (qza rfl qzb))) (qza rfl (qza rfl (qza (by simp [put, bkLV]) qzb))) (qza rfl qzb), by show ts4.length + 1 < ts3.length + 1; omega⟩
       ·
        dsimp only [itF, itSt, bkLV, bkAr]
        have hl := hS.len
        have hz := qjv acc
        simp only [rbx, go_sem, push_cast, seval]
        refine qz1 (by kernel_rfl) ?_
        simp only [rbx, List.length_map, Int.toNat_natCast, hA3.i0, hA3.i1, hA3.get, tokD, go_sem, push_cast, seval]
        cases hk0 : (Lg.hd ts3).kind == 0 with
        | true =>
          rw [Lg.zz5, if_pos (eq_of_beq hk0)] at hK
          have hk1 : ((Lg.hd ts3).kind != 0) = false := by simp [bne, hk0]
          simp only [hk1, rbx, go_sem, push_cast, seval]
          have hK2 : outT Kr acc := by have this : outT Kr (acc ++ []) := hK; rw [List.append_nil] at this; exact this
          unfold outT at hK2
          refine ⟨_, .node 0 [] 0 0 acc, rfl, qzd (qzn hS), by rw [Lg.qzx]; omega, ?_⟩
          simp only [go_sem, push_cast, seval]
          refine ⟨fun h => ?_, fun h => ?_⟩
          · rw [if_pos (by have := of_decide_eq_true h; omega)] at hK2
            exact ⟨_, .cons (qzd qqd) (.cons (.rfl _) (.cons (.rfl _) .nil)), hK2⟩
          · rw [if_neg (by have := of_decide_eq_false h; omega)] at hK2
            exact ⟨_, .cons (qzd (qzn hS)) (.cons (.rfl _) (.cons (.rfl _) .nil)), hK2⟩
        | false =>
          have hk1 : ((Lg.hd ts3).kind != 0) = true := by simp [bne, hk0]
          rw [qwn (by simpa using hk0)] at hK
          simp only [hk1, rbx, go_sem, push_cast, seval]
          refine qz1 (by kernel_rfl) ?_
          simp only [rbx, List.length_map, Int.toNat_natCast, hA3.i0, hA3.i1, hA3.get, tokD, go_sem, push_cast, seval]
          refine ⟨T, i3, ts3, 0, 0, 0, Lg.sFn, rfl, rfl, hA3, .inl ⟨rfl, fun h => ?_, fun h => ?_⟩⟩
          · have hit : Lg.item ts3 = Lg.fn (Lg.hd ts3).pos ts3.tail := by unfold Lg.item; rw [if_pos h]
            simp only [go_sem, push_cast, seval]
            refine ⟨(Lg.hd ts3).pos, T, i3 + 1, ts3.tail, 0, rfl, rfl, hA3.isT h, ?_⟩
            rw [← hit]
            refine qj7 hK (fun p' c hc hE x i' ts' hb' hA' => ?_) (fun x ts4 i4 e hK hA4 => ?_)
            · simp only [go_sem, push_cast, seval]
              refine ⟨by simp only [List.length_cons] at hl; omega, by simp only [List.length_cons] at hl; omega, ?_⟩
              exact ⟨⟨.bad 86 ((d :: ds) ++ [exD x]) (acc ++ [x]) i' c p', Or.inr rfl, hc, ⟨ts', hA'⟩, hS.snoc (qzi x), by rw [List.length_append, List.length_singleton]; omega, hE⟩, zsub (qza rfl (qza rfl (qza rfl qzb))) (qza rfl (qza rfl (qza (by simp [put, bkLV]) qzb))) (qza rfl qzb), Nat.succ_pos _⟩
            · have h1 := Lg.zkj _ _ _ e
              have h2 := Lg.item_pay _ _ _ e
              simp only [go_sem, push_cast, seval]
              refine ⟨by simp only [List.length_cons] at hl; omega, by simp only [List.length_cons] at hl; omega, ?_⟩
              exact ⟨⟨.go 86 ((d :: ds) ++ [exD x]) (acc ++ [x]) i4 ts4, Or.inr rfl, hA4, hS.snoc (qzi x), by rw [qqg]; omega, qk4 hK⟩, zsub (qza rfl (qza rfl (qza rfl qzb))) (qza rfl (qza rfl (qza (by simp [put, bkLV]) qzb))) (qza rfl qzb), by show ts4.length + 1 < ts3.length + 1; omega⟩
          · have hit : Lg.item ts3 = Lg.bnd (Lg.must Lg.sType ts3) fun _ ts' => Lg.typ (Lg.hd ts3).pos ts' := by unfold Lg.item; rw [if_neg (qzf h)]
            have hit2 : ∀ x ts4, Lg.item ts3 = .ok (x, ts4) → ts4.length < ts3.length ∧ Lg.size x + 3 * ts4.length ≤ 3 * ts3.length := fun x ts4 e => ⟨Lg.zkj _ _ _ e, Lg.item_pay _ _ _ e⟩
            rw [hit] at hit2
            rw [hit, bnd3] at hK
            simp only [go_sem, push_cast, seval]
            refine ⟨_, T, i3, ts3, 0, 0, 0, rfl, rfl, hA3, .inl ⟨rfl, qj7 hK (fun p' c hc hE _ i' ts' hb' hA' => ?_) (fun _ ts5 i5 e5 hK hA5 => ?_)⟩⟩
            · have hc' : (c == 0) = false := by simpa using hc
              simp only [rbx, hc', go_sem, push_cast, seval]
              exact ⟨⟨.bad 86 (d :: ds) acc i' c p', Or.inr rfl, hc, ⟨ts', hA'⟩, hS, by omega, hE⟩, zsub (qza rfl (qza rfl (qza rfl qzb))) (qza rfl (qza rfl (qza rfl qzb))) (qza rfl qzb), Nat.succ_pos _⟩
            · simp only [rbx, go_sem, push_cast, seval]
              refine ⟨(Lg.hd ts3).pos, T, i5, ts5, 0, 0, 0, rfl, rfl, hA5, .inl ⟨rfl, qj7 hK (fun p' c hc hE x i' ts' hb' hA' => ?_) (fun x ts4 i4 e hK hA4 => ?_)⟩⟩
              · simp only [go_sem, push_cast, seval]
                refine ⟨by simp only [List.length_cons] at hl; omega, by simp only [List.length_cons] at hl; omega, ?_⟩
                exact ⟨⟨.bad 86 ((d :: ds) ++ [exD x]) (acc ++ [x]) i' c p', Or.inr rfl, hc, ⟨ts', hA'⟩, hS.snoc (qzi x), by rw [List.length_append, List.length_singleton]; omega, hE⟩, zsub (qza rfl (qza rfl (qza rfl qzb))) (qza rfl (qza rfl (qza (by simp [put, bkLV]) qzb))) (qza rfl qzb), Nat.succ_pos _⟩
              · obtain ⟨h1, h2⟩ := hit2 x ts4 (by rw [show Lg.must Lg.sType ts3 = _ from e5]; exact e)
                simp only [go_sem, push_cast, seval]
                refine ⟨by simp only [List.length_cons] at hl; omega, by simp only [List.length_cons] at hl; omega, ?_⟩
                exact ⟨⟨.go 86 ((d :: ds) ++ [exD x]) (acc ++ [x]) i4 ts4, Or.inr rfl, hA4, hS.snoc (qzi x), by rw [qqg]; omega, qk4 hK⟩, zsub (qza rfl (qza rfl (qza rfl qzb))) (qza rfl (qza rfl (qza (by simp [put, bkLV]) qzb))) (qza rfl qzb), by show ts4.length + 1 < ts3.length + 1; omega⟩
   | bad dd ds acc i3 c p' =>
     obtain ⟨hd, hc, ⟨ts', hA'⟩, hS, hn, hE⟩ := hq
     have hc' : (c == 0) = false := by simpa using hc
     have hcn : (c != 0) = true := by simpa using hc
     cases ds with
     | nil =>
       dsimp only [itF, itSt, bkLV, bkAr]
       simp only [rbx, go_sem, push_cast, seval]
       refine qz1 (by kernel_rfl) ?_
       simp only [rbx, hc', hcn, go_sem, push_cast, seval]
       refine qzq [] [] (.take 1 (.take 5 (.rd 2 (.take 3 (.rd 6 (.take 7 (.all (.cons 0 (.all (.cons 4 (.all (.cons 8 (.all (.cons 9 (.take 10 (.take 11 .done)) .nil)) (.cons 9 (.take 10 (.all (.cons 8 (.take 11 .done) .nil))) .nil))) (.cons 8 (.all (.cons 4 (.all (.cons 9 (.take 10 (.take 11 .done)) .nil)) (.cons 9 (.all (.cons 4 (.take 10 (.take 11 .done)) .nil)) .nil))) (.cons 9 (.all (.cons 4 (.take 10 (.all (.cons 8 (.take 11 .done) .nil))) (.cons 8 (.all (.cons 4 (.take 10 (.take 11 .done)) .nil)) .nil))) .nil)))) (.cons 4 (.all (.cons 0 (.all (.cons 8 (.all (.cons 9 (.take 10 (.take 11 .done)) .nil)) (.cons 9 (.take 10 (.all (.cons 8 (.take 11 .done) .nil))) .nil))) (.cons 8 (.all (.cons 0 (.all (.cons 9 (.take 10 (.take 11 .done)) .nil)) .nil)) .nil))) (.cons 8 (.all (.cons 0 (.all (.cons 4 (.all (.cons 9 (.take 10 (.take 11 .done)) .nil)) (.cons 9 (.all (.cons 4 (.take 10 (.take 11 .done)) .nil)) .nil))) (.cons 4 (.all (.cons 0 (.all (.cons 9 (.take 10 (.take 11 .done)) .nil)) .nil)) .nil))) .nil)))))))))) (by kernel_rfl) (by kernel_rfl) ?_
       simp only [rbx, go_sem, push_cast, seval]
       repeat' apply And.intro
       all_goals exact ⟨_, .cons (qzd qqd) (.cons (.rfl _) (.cons (.rfl _) .nil)), hE⟩
     | cons d ds =>
       dsimp only [itF, itSt, bkLV, bkAr]
       simp only [rbx, go_sem, push_cast, seval]
       refine qz1 (by kernel_rfl) ?_
       simp only [rbx, hc', hcn, go_sem, push_cast, seval]
       refine qzq [] [] (.take 1 (.take 5 (.rd 2 (.take 3 (.rd 6 (.take 7 (.all (.cons 0 (.all (.cons 4 (.all (.cons 8 (.all (.cons 9 (.take 10 (.take 11 .done)) .nil)) (.cons 9 (.take 10 (.all (.cons 8 (.take 11 .done) .nil))) .nil))) (.cons 8 (.all (.cons 4 (.all (.cons 9 (.take 10 (.take 11 .done)) .nil)) (.cons 9 (.all (.cons 4 (.take 10 (.take 11 .done)) .nil)) .nil))) (.cons 9 (.all (.cons 4 (.take 10 (.all (.cons 8 (.take 11 .done) .nil))) (.cons 8 (.all (.cons 4 (.take 10 (.take 11 .done)) .nil)) .nil))) .nil)))) (.cons 4 (.all (.cons 0 (.all (.cons 8 (.all (.cons 9 (.take 10 (.take 11 .done)) .nil)) (.cons 9 (.take 10 (.all (.cons 8 (.take 11 .done) .nil))) .nil))) (.cons 8 (.all (.cons 0 (.all (.cons 9 (.take 10 (.take 11 .done)) .nil)) .nil)) .nil))) (.cons 8 (.all (.cons 0 (.all (.cons 4 (.all (.cons 9 (.take 10 (.take 11 .done)) .nil)) (.cons 9 (.all (.cons 4 (.take 10 (.take 11 .done)) .nil)) .nil))) (.cons 4 (.all (.cons 0 (.all (.cons 9 (.take 10 (.take 11 .done)) .nil)) .nil)) .nil))) .nil)))))))))) (by kernel_rfl) (by kernel_rfl) ?_
       simp only [rbx, go_sem, push_cast, seval]
       repeat' apply And.intro
       all_goals exact ⟨_, .cons (qzd qqd) (.cons (.rfl _) (.cons (.rfl _) .nil)), hE⟩
end Lx
