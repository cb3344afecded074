import Derived.Test.YtchmejlaancegaaGreatDoorZu
import Derived.Test.YtchmejlaancegaaGreatDoorZm
import Derived.Test.YtchmejlaancegaaGreatDoorZh
import Derived.Test.YtchmejlaancegaaGreatDoorRz
set_option linter.unusedSimpArgs false
set_option linter.unusedVariables false
set_option maxRecDepth 20000
namespace Lx
open Go
open Lg (Tok Tree)
open Go.Proofs (Tryz.prog)
open Go.Proofs.Tryz
def itQ (Kr : LV → Bx → Ar1 → Prop) (acc : List Tree) : Lg.PR (List Tree) → Prop
  | .ok (xs, _) => outT Kr (acc ++ xs)
  | .error (p, c) => c ≠ 0 → outE Kr p c
theorem itQ_bnd {α : Type} {T : List Tok} {a : Int} {Kr : LV → Bx → Ar1 → Prop} {acc : List Tree} {bad' : α → Prop} {res' : α → LV} {Kr' : LV → Bx → Ar1 → Prop} {x : Lg.PR α} {k : α → List Tok → Lg.PR (List Tree)} (hK : itQ Kr acc (Lg.bnd x k))
    (herr : ∀ p c, c ≠ 0 → outE Kr p c → ∀ y i ts', bad' y → At T i ts' → Kr' (res' y) (put 1000 (rbx T i 0 c p) nix) none)
    (hok : ∀ v ts' i, x = .ok (v, ts') → itQ Kr acc (k v ts') → At T i ts' → Kr' (res' v) (put 1000 (rbx T i 0 0 a) nix) none) : refQ T 0 a bad' res' Kr' x := by
  cases x with
  | error q => exact fun hc y i hb ⟨ts', hA⟩ => herr q.1 q.2 hc (hK hc) y i ts' hb hA
  | ok q => exact fun i hA => hok q.1 q.2 i rfl hK hA
theorem itQ_cons {Kr : LV → Bx → Ar1 → Prop} {acc : List Tree} {x : Tree} {r : Lg.PR (List Tree)} (h : itQ Kr acc (Lg.bnd r fun xs ts'' => .ok (x :: xs, ts''))) : itQ Kr (acc ++ [x]) r := by
  cases r with
  | error q => exact h
  | ok q =>
    show outT Kr (acc ++ [x] ++ q.1)
    rw [List.append_assoc]
    exact h
theorem items_step {ts : List Tok} (h : (Lg.hd ts).kind ≠ 0) : Lg.items ts = Lg.bnd (Lg.item ts) fun x ts' => Lg.bnd (Lg.items ts') fun xs ts'' => .ok (x :: xs, ts'') := by
  rw [Lg.items, if_neg h]
  cases h1 : Lg.item ts with
  | error q => rfl
  | ok q =>
    obtain ⟨x, ts'⟩ := q
    have h2 := Lg.item_eats _ _ _ h1
    show (if ts'.length < ts.length then _ else _) = _
    rw [if_pos h2]
    rfl
abbrev itSt (T : List Tok) (d : Nat) (ds : List D) (i : Nat) (fl p : Int) : S :=
  ⟨108, put 2 (.bp 2 0) (put 8 (.bp 28 0) (put 9 (.bp 9 0) nix)), put 28 (rbx T i 0 fl p) (put 2 ⟨zeroE, 31⟩ (put 9 ⟨[.d (.int .i64 0), .d (.st []), .d (.int .i64 0), .d (.int .i64 0), bkLV d ds], 31⟩ nix)), bkAr d ds⟩
inductive ItQ where
  | go (d : Nat) (ds : List D) (acc : List Tree) (i : Nat) (ts : List Tok)
  | bad (d : Nat) (ds : List D) (acc : List Tree) (i : Nat) (c p : Int)
def itM : ItQ → Nat
  | .go _ _ _ _ ts => ts.length + 1
  | .bad _ _ _ _ _ _ => 0
def itOk (T : List Tok) (Kr : LV → Bx → Ar1 → Prop) : ItQ → Prop
  | .go d ds acc i ts => (d = 70 ∨ d = 86) ∧ At T i ts ∧ Stand ds acc ∧ Lg.sizes acc + 3 * ts.length ≤ 6291456 ∧ itQ Kr acc (Lg.items ts)
  | .bad d ds acc i c p => (d = 70 ∨ d = 86) ∧ c ≠ 0 ∧ (∃ ts, At T i ts) ∧ Stand ds acc ∧ acc.length ≤ 6291457 ∧ outE Kr p c
def itF (T : List Tok) : ItQ → S
  | .go d ds _ i _ => itSt T d ds i 0 0
  | .bad d ds _ i c p => itSt T d ds i c p
set_option maxHeartbeats 32000000 in
theorem rparse_OK : OK Tryz.prog 5 parseS := by
  refine fn_OK' mixes (E := EV) (sp := spL [(17, toksS), (18, rhas), (19, rfn), (20, rmust), (21, rtyp), (22, (rsizeS 9223372036854775807))]) tl_ok tl_zok (OKs.ok ⟨rtoks_OK, ⟨rhas_OK, ⟨rfn_OK, ⟨rmust_OK, ⟨rtyp_OK, ⟨(rsize_OK 9223372036854775807 (by decide)), trivial⟩⟩⟩⟩⟩⟩) func5 rfl ntmps5 results5 call5 [] none ?_
  rintro ys bx Kr Kp ⟨l, rfl, hK⟩
  refine ⟨[], rfl, trivial, by simp, ?_⟩
  simp only [go_sem, push_cast, seval, ↓reduceIte, reduceCtorEq, Nat.zero_add, Nat.add_zero, Nat.zero_le, Nat.succ_ne_zero]
  refine ⟨l, rfl, ?_⟩
  unfold Lg.parse at hK
  cases htk : Lg.toks l with
  | error q =>
    obtain ⟨p, c⟩ := q
    rw [htk] at hK
    intro hc
    have hc' : (c != 0) = true := by simpa using hc
    simp only [hc', go_sem, push_cast, seval, ↓reduceIte, reduceCtorEq, Nat.zero_add, Nat.add_zero, Nat.zero_le, Nat.succ_ne_zero]
    exact ⟨_, .cons (le_node le_nil) (.cons (.rfl _) (.cons (.rfl _) .nil)), hK⟩
  | ok T =>
    rw [htk] at hK
    intro hg
    have hT : At T 0 T := ⟨rfl, hg, hg.2, (toks_key htk).1⟩
    have hK2 : itQ Kr [] (Lg.items T) := by
      have hK' : (match Lg.parseToks T with | .ok t => Kr (.tup [.d (treeD t), .d (.int .i64 0), .d (.int .i64 0)]) nix none | .error (a, c) => outE Kr a c) := hK
      unfold Lg.parseToks at hK'
      cases hit : Lg.items T with
      | error p => obtain ⟨a, c⟩ := p; rw [hit] at hK'; exact fun _ => hK'
      | ok p =>
        obtain ⟨xs, ts'⟩ := p
        rw [hit] at hK'
        show outT Kr xs
        unfold outT
        simp only at hK'
        split
        · rename_i h; rw [if_pos h] at hK'; exact hK'
        · rename_i h; rw [if_neg h] at hK'; exact hK'
    clear hK
    simp only [go_sem, push_cast, seval, ↓reduceIte, reduceCtorEq, Nat.zero_add, Nat.add_zero, Nat.zero_le, Nat.succ_ne_zero]
    refine loop_use (T := { q : ItQ // itOk T Kr q }) (fun q => itF T q.val) (fun q => itM q.val) ⟨.go 70 [] [] 0 T, .inl rfl, hT, .nil, by have := hg.2; show 0 + 3 * T.length ≤ 6291456; omega, hK2⟩
      (zsub (subm_put rfl (subm_put rfl (subm_put rfl subm_nix))) (subm_put rfl (subm_put rfl (subm_put rfl subm_nix))) subm_nix) ?_
    rintro ⟨q, hq⟩
    cases q with
    | go dd ds acc i3 ts3 =>
      obtain ⟨hd, hA3, hS, hn, hK⟩ := hq
      cases ds with
      | nil =>
        rcases hd with rfl | rfl
        all_goals
          dsimp only [itF, itSt, bkLV, bkAr]
          have hl := hS.len
          have hz := len_sizes acc
          simp only [rbx, go_sem, push_cast, seval, ↓reduceIte, reduceCtorEq, Nat.zero_add, Nat.add_zero, Nat.zero_le, Nat.succ_ne_zero]
          refine draw_still (by kernel_rfl) ?_
          simp only [rbx, List.length_map, Int.toNat_natCast, hA3.i0, hA3.i1, hA3.get, tokD, go_sem, push_cast, seval, ↓reduceIte, reduceCtorEq, Nat.zero_add, Nat.add_zero, Nat.zero_le, Nat.succ_ne_zero]
          cases hk0 : (Lg.hd ts3).kind == 0 with
          | true =>
            rw [Lg.items, if_pos (eq_of_beq hk0)] at hK
            have hk1 : ((Lg.hd ts3).kind != 0) = false := by simp [bne, hk0]
            simp only [hk1, rbx, go_sem, push_cast, seval, ↓reduceIte, reduceCtorEq, Nat.zero_add, Nat.add_zero, Nat.zero_le, Nat.succ_ne_zero]
            have hK2 : outT Kr acc := by have this : outT Kr (acc ++ []) := hK; rw [List.append_nil] at this; exact this
            unfold outT at hK2
            refine ⟨_, .node 0 [] 0 0 acc, rfl, le_node (by cases acc with | nil => exact .nil _ _ | cons y l => cases hS), by rw [Lg.size_node]; omega, ?_⟩
            simp only [go_sem, push_cast, seval, ↓reduceIte, reduceCtorEq, Nat.zero_add, Nat.add_zero, Nat.zero_le, Nat.succ_ne_zero]
            refine ⟨fun h => ?_, fun h => ?_⟩
            · rw [if_pos (by have := of_decide_eq_true h; omega)] at hK2
              exact ⟨_, .cons (le_node le_nil) (.cons (.rfl _) (.cons (.rfl _) .nil)), hK2⟩
            · rw [if_neg (by have := of_decide_eq_false h; omega)] at hK2
              exact ⟨_, .cons (le_node (by cases acc with | nil => exact .nil _ _ | cons y l => cases hS)) (.cons (.rfl _) (.cons (.rfl _) .nil)), hK2⟩
          | false =>
            have hk1 : ((Lg.hd ts3).kind != 0) = true := by simp [bne, hk0]
            rw [items_step (by simpa using hk0)] at hK
            simp only [hk1, rbx, go_sem, push_cast, seval, ↓reduceIte, reduceCtorEq, Nat.zero_add, Nat.add_zero, Nat.zero_le, Nat.succ_ne_zero]
            refine draw_still (by kernel_rfl) ?_
            simp only [rbx, List.length_map, Int.toNat_natCast, hA3.i0, hA3.i1, hA3.get, tokD, go_sem, push_cast, seval, ↓reduceIte, reduceCtorEq, Nat.zero_add, Nat.add_zero, Nat.zero_le, Nat.succ_ne_zero]
            refine ⟨T, i3, ts3, 0, 0, 0, Lg.sFn, rfl, rfl, hA3, .inl ⟨rfl, fun h => ?_, fun h => ?_⟩⟩
            · have hit : Lg.item ts3 = Lg.fn (Lg.hd ts3).pos ts3.tail := by unfold Lg.item; rw [if_pos h]
              simp only [go_sem, push_cast, seval, ↓reduceIte, reduceCtorEq, Nat.zero_add, Nat.add_zero, Nat.zero_le, Nat.succ_ne_zero]
              refine ⟨(Lg.hd ts3).pos, T, i3 + 1, ts3.tail, 0, rfl, rfl, hA3.isT h, ?_⟩
              rw [← hit]
              refine itQ_bnd hK (fun p' c hc hE x i' ts' hb' hA' => ?_) (fun x ts4 i4 e hK hA4 => ?_)
              · simp only [go_sem, push_cast, seval, ↓reduceIte, reduceCtorEq, Nat.zero_add, Nat.add_zero, Nat.zero_le, Nat.succ_ne_zero]
                exact ⟨⟨.bad 70 ([] ++ [exD x]) (acc ++ [x]) i' c p', Or.inl rfl, hc, ⟨ts', hA'⟩, hS.snoc (le_tree x), by rw [List.length_append, List.length_singleton]; omega, hE⟩, zsub (subm_put rfl (subm_put rfl (subm_put rfl subm_nix))) (subm_put rfl (subm_put rfl (subm_put rfl subm_nix))) (subm_put rfl subm_nix), Nat.succ_pos _⟩
              · have h1 := Lg.item_eats _ _ _ e
                have h2 := Lg.item_pay _ _ _ e
                simp only [go_sem, push_cast, seval, ↓reduceIte, reduceCtorEq, Nat.zero_add, Nat.add_zero, Nat.zero_le, Nat.succ_ne_zero]
                exact ⟨⟨.go 70 ([] ++ [exD x]) (acc ++ [x]) i4 ts4, Or.inl rfl, hA4, hS.snoc (le_tree x), by rw [sizes_snoc]; omega, itQ_cons hK⟩, zsub (subm_put rfl (subm_put rfl (subm_put rfl subm_nix))) (subm_put rfl (subm_put rfl (subm_put rfl subm_nix))) (subm_put rfl subm_nix), by show ts4.length + 1 < ts3.length + 1; omega⟩
            · have hit : Lg.item ts3 = Lg.bnd (Lg.must Lg.sType ts3) fun _ ts' => Lg.typ (Lg.hd ts3).pos ts' := by unfold Lg.item; rw [if_neg (isT_false h)]
              have hit2 : ∀ x ts4, Lg.item ts3 = .ok (x, ts4) → ts4.length < ts3.length ∧ Lg.size x + 3 * ts4.length ≤ 3 * ts3.length := fun x ts4 e => ⟨Lg.item_eats _ _ _ e, Lg.item_pay _ _ _ e⟩
              rw [hit] at hit2
              rw [hit, bnd3] at hK
              simp only [go_sem, push_cast, seval, ↓reduceIte, reduceCtorEq, Nat.zero_add, Nat.add_zero, Nat.zero_le, Nat.succ_ne_zero]
              refine ⟨_, T, i3, ts3, 0, 0, 0, rfl, rfl, hA3, .inl ⟨rfl, itQ_bnd hK (fun p' c hc hE _ i' ts' hb' hA' => ?_) (fun _ ts5 i5 e5 hK hA5 => ?_)⟩⟩
              · have hc' : (c == 0) = false := by simpa using hc
                simp only [rbx, hc', go_sem, push_cast, seval, ↓reduceIte, reduceCtorEq, Nat.zero_add, Nat.add_zero, Nat.zero_le, Nat.succ_ne_zero]
                exact ⟨⟨.bad 70 [] acc i' c p', Or.inl rfl, hc, ⟨ts', hA'⟩, hS, by omega, hE⟩, zsub (subm_put rfl (subm_put rfl (subm_put rfl subm_nix))) (subm_put rfl (subm_put rfl (subm_put rfl subm_nix))) subm_nix, Nat.succ_pos _⟩
              · simp only [rbx, go_sem, push_cast, seval, ↓reduceIte, reduceCtorEq, Nat.zero_add, Nat.add_zero, Nat.zero_le, Nat.succ_ne_zero]
                refine ⟨(Lg.hd ts3).pos, T, i5, ts5, 0, 0, 0, rfl, rfl, hA5, .inl ⟨rfl, itQ_bnd hK (fun p' c hc hE x i' ts' hb' hA' => ?_) (fun x ts4 i4 e hK hA4 => ?_)⟩⟩
                · simp only [go_sem, push_cast, seval, ↓reduceIte, reduceCtorEq, Nat.zero_add, Nat.add_zero, Nat.zero_le, Nat.succ_ne_zero]
                  exact ⟨⟨.bad 86 ([] ++ [exD x]) (acc ++ [x]) i' c p', Or.inr rfl, hc, ⟨ts', hA'⟩, hS.snoc (le_tree x), by rw [List.length_append, List.length_singleton]; omega, hE⟩, zsub (subm_put rfl (subm_put rfl (subm_put rfl subm_nix))) (subm_put rfl (subm_put rfl (subm_put rfl subm_nix))) (subm_put rfl subm_nix), Nat.succ_pos _⟩
                · obtain ⟨h1, h2⟩ := hit2 x ts4 (by rw [show Lg.must Lg.sType ts3 = _ from e5]; exact e)
                  simp only [go_sem, push_cast, seval, ↓reduceIte, reduceCtorEq, Nat.zero_add, Nat.add_zero, Nat.zero_le, Nat.succ_ne_zero]
                  exact ⟨⟨.go 86 ([] ++ [exD x]) (acc ++ [x]) i4 ts4, Or.inr rfl, hA4, hS.snoc (le_tree x), by rw [sizes_snoc]; omega, itQ_cons hK⟩, zsub (subm_put rfl (subm_put rfl (subm_put rfl subm_nix))) (subm_put rfl (subm_put rfl (subm_put rfl subm_nix))) (subm_put rfl subm_nix), by show ts4.length + 1 < ts3.length + 1; omega⟩
      | cons d ds =>
        rcases hd with rfl | rfl
        ·
          dsimp only [itF, itSt, bkLV, bkAr]
          have hl := hS.len
          have hz := len_sizes acc
          simp only [rbx, go_sem, push_cast, seval, ↓reduceIte, reduceCtorEq, Nat.zero_add, Nat.add_zero, Nat.zero_le, Nat.succ_ne_zero]
          refine draw_still (by kernel_rfl) ?_
          simp only [rbx, List.length_map, Int.toNat_natCast, hA3.i0, hA3.i1, hA3.get, tokD, go_sem, push_cast, seval, ↓reduceIte, reduceCtorEq, Nat.zero_add, Nat.add_zero, Nat.zero_le, Nat.succ_ne_zero]
          cases hk0 : (Lg.hd ts3).kind == 0 with
          | true =>
            rw [Lg.items, if_pos (eq_of_beq hk0)] at hK
            have hk1 : ((Lg.hd ts3).kind != 0) = false := by simp [bne, hk0]
            simp only [hk1, rbx, go_sem, push_cast, seval, ↓reduceIte, reduceCtorEq, Nat.zero_add, Nat.add_zero, Nat.zero_le, Nat.succ_ne_zero]
            have hK2 : outT Kr acc := by have this : outT Kr (acc ++ []) := hK; rw [List.append_nil] at this; exact this
            unfold outT at hK2
            refine ⟨_, .node 0 [] 0 0 acc, rfl, le_node (les_sl hS), by rw [Lg.size_node]; omega, ?_⟩
            simp only [go_sem, push_cast, seval, ↓reduceIte, reduceCtorEq, Nat.zero_add, Nat.add_zero, Nat.zero_le, Nat.succ_ne_zero]
            refine ⟨fun h => ?_, fun h => ?_⟩
            · rw [if_pos (by have := of_decide_eq_true h; omega)] at hK2
              exact ⟨_, .cons (le_node le_nil) (.cons (.rfl _) (.cons (.rfl _) .nil)), hK2⟩
            · rw [if_neg (by have := of_decide_eq_false h; omega)] at hK2
              exact ⟨_, .cons (le_node (les_sl hS)) (.cons (.rfl _) (.cons (.rfl _) .nil)), hK2⟩
          | false =>
            have hk1 : ((Lg.hd ts3).kind != 0) = true := by simp [bne, hk0]
            rw [items_step (by simpa using hk0)] at hK
            simp only [hk1, rbx, go_sem, push_cast, seval, ↓reduceIte, reduceCtorEq, Nat.zero_add, Nat.add_zero, Nat.zero_le, Nat.succ_ne_zero]
            refine draw_still (by kernel_rfl) ?_
            simp only [rbx, List.length_map, Int.toNat_natCast, hA3.i0, hA3.i1, hA3.get, tokD, go_sem, push_cast, seval, ↓reduceIte, reduceCtorEq, Nat.zero_add, Nat.add_zero, Nat.zero_le, Nat.succ_ne_zero]
            refine ⟨T, i3, ts3, 0, 0, 0, Lg.sFn, rfl, rfl, hA3, .inl ⟨rfl, fun h => ?_, fun h => ?_⟩⟩
            · have hit : Lg.item ts3 = Lg.fn (Lg.hd ts3).pos ts3.tail := by unfold Lg.item; rw [if_pos h]
              simp only [go_sem, push_cast, seval, ↓reduceIte, reduceCtorEq, Nat.zero_add, Nat.add_zero, Nat.zero_le, Nat.succ_ne_zero]
              refine ⟨(Lg.hd ts3).pos, T, i3 + 1, ts3.tail, 0, rfl, rfl, hA3.isT h, ?_⟩
              rw [← hit]
              refine itQ_bnd hK (fun p' c hc hE x i' ts' hb' hA' => ?_) (fun x ts4 i4 e hK hA4 => ?_)
              · simp only [go_sem, push_cast, seval, ↓reduceIte, reduceCtorEq, Nat.zero_add, Nat.add_zero, Nat.zero_le, Nat.succ_ne_zero]
                refine ⟨by simp only [List.length_cons] at hl; omega, by simp only [List.length_cons] at hl; omega, ?_⟩
                exact ⟨⟨.bad 70 ((d :: ds) ++ [exD x]) (acc ++ [x]) i' c p', Or.inl rfl, hc, ⟨ts', hA'⟩, hS.snoc (le_tree x), by rw [List.length_append, List.length_singleton]; omega, hE⟩, zsub (subm_put rfl (subm_put rfl (subm_put rfl subm_nix))) (subm_put rfl (subm_put rfl (subm_put (by simp [put, bkLV]) subm_nix))) (subm_put rfl subm_nix), Nat.succ_pos _⟩
              · have h1 := Lg.item_eats _ _ _ e
                have h2 := Lg.item_pay _ _ _ e
                simp only [go_sem, push_cast, seval, ↓reduceIte, reduceCtorEq, Nat.zero_add, Nat.add_zero, Nat.zero_le, Nat.succ_ne_zero]
                refine ⟨by simp only [List.length_cons] at hl; omega, by simp only [List.length_cons] at hl; omega, ?_⟩
                exact ⟨⟨.go 70 ((d :: ds) ++ [exD x]) (acc ++ [x]) i4 ts4, Or.inl rfl, hA4, hS.snoc (le_tree x), by rw [sizes_snoc]; omega, itQ_cons hK⟩, zsub (subm_put rfl (subm_put rfl (subm_put rfl subm_nix))) (subm_put rfl (subm_put rfl (subm_put (by simp [put, bkLV]) subm_nix))) (subm_put rfl subm_nix), by show ts4.length + 1 < ts3.length + 1; omega⟩
            · have hit : Lg.item ts3 = Lg.bnd (Lg.must Lg.sType ts3) fun _ ts' => Lg.typ (Lg.hd ts3).pos ts' := by unfold Lg.item; rw [if_neg (isT_false h)]
              have hit2 : ∀ x ts4, Lg.item ts3 = .ok (x, ts4) → ts4.length < ts3.length ∧ Lg.size x + 3 * ts4.length ≤ 3 * ts3.length := fun x ts4 e => ⟨Lg.item_eats _ _ _ e, Lg.item_pay _ _ _ e⟩
              rw [hit] at hit2
              rw [hit, bnd3] at hK
              simp only [go_sem, push_cast, seval, ↓reduceIte, reduceCtorEq, Nat.zero_add, Nat.add_zero, Nat.zero_le, Nat.succ_ne_zero]
              refine ⟨_, T, i3, ts3, 0, 0, 0, rfl, rfl, hA3, .inl ⟨rfl, itQ_bnd hK (fun p' c hc hE _ i' ts' hb' hA' => ?_) (fun _ ts5 i5 e5 hK hA5 => ?_)⟩⟩
              · have hc' : (c == 0) = false := by simpa using hc
                simp only [rbx, hc', go_sem, push_cast, seval, ↓reduceIte, reduceCtorEq, Nat.zero_add, Nat.add_zero, Nat.zero_le, Nat.succ_ne_zero]
                exact ⟨⟨.bad 70 (d :: ds) acc i' c p', Or.inl rfl, hc, ⟨ts', hA'⟩, hS, by omega, hE⟩, zsub (subm_put rfl (subm_put rfl (subm_put rfl subm_nix))) (subm_put rfl (subm_put rfl (subm_put rfl subm_nix))) (subm_put rfl subm_nix), Nat.succ_pos _⟩
              · simp only [rbx, go_sem, push_cast, seval, ↓reduceIte, reduceCtorEq, Nat.zero_add, Nat.add_zero, Nat.zero_le, Nat.succ_ne_zero]
                refine ⟨(Lg.hd ts3).pos, T, i5, ts5, 0, 0, 0, rfl, rfl, hA5, .inl ⟨rfl, itQ_bnd hK (fun p' c hc hE x i' ts' hb' hA' => ?_) (fun x ts4 i4 e hK hA4 => ?_)⟩⟩
                · simp only [go_sem, push_cast, seval, ↓reduceIte, reduceCtorEq, Nat.zero_add, Nat.add_zero, Nat.zero_le, Nat.succ_ne_zero]
                  refine ⟨by simp only [List.length_cons] at hl; omega, by simp only [List.length_cons] at hl; omega, ?_⟩
                  exact ⟨⟨.bad 70 ((d :: ds) ++ [exD x]) (acc ++ [x]) i' c p', Or.inl rfl, hc, ⟨ts', hA'⟩, hS.snoc (le_tree x), by rw [List.length_append, List.length_singleton]; omega, hE⟩, zsub (subm_put rfl (subm_put rfl (subm_put rfl subm_nix))) (subm_put rfl (subm_put rfl (subm_put (by simp [put, bkLV]) subm_nix))) (subm_put rfl subm_nix), Nat.succ_pos _⟩
                · obtain ⟨h1, h2⟩ := hit2 x ts4 (by rw [show Lg.must Lg.sType ts3 = _ from e5]; exact e)
                  simp only [go_sem, push_cast, seval, ↓reduceIte, reduceCtorEq, Nat.zero_add, Nat.add_zero, Nat.zero_le, Nat.succ_ne_zero]
                  refine ⟨by simp only [List.length_cons] at hl; omega, by simp only [List.length_cons] at hl; omega, ?_⟩
                  exact ⟨⟨.go 70 ((d :: ds) ++ [exD x]) (acc ++ [x]) i4 ts4, Or.inl rfl, hA4, hS.snoc (le_tree x), by rw [sizes_snoc]; omega, itQ_cons hK⟩, zsub (subm_put rfl (subm_put rfl (subm_put rfl subm_nix))) (subm_put rfl (subm_put rfl (subm_put (by simp [put, bkLV]) subm_nix))) (subm_put rfl subm_nix), by show ts4.length + 1 < ts3.length + 1; omega⟩
        ·
          dsimp only [itF, itSt, bkLV, bkAr]
          have hl := hS.len
          have hz := len_sizes acc
          simp only [rbx, go_sem, push_cast, seval, ↓reduceIte, reduceCtorEq, Nat.zero_add, Nat.add_zero, Nat.zero_le, Nat.succ_ne_zero]
          refine draw_still (by kernel_rfl) ?_
          simp only [rbx, List.length_map, Int.toNat_natCast, hA3.i0, hA3.i1, hA3.get, tokD, go_sem, push_cast, seval, ↓reduceIte, reduceCtorEq, Nat.zero_add, Nat.add_zero, Nat.zero_le, Nat.succ_ne_zero]
          cases hk0 : (Lg.hd ts3).kind == 0 with
          | true =>
            rw [Lg.items, if_pos (eq_of_beq hk0)] at hK
            have hk1 : ((Lg.hd ts3).kind != 0) = false := by simp [bne, hk0]
            simp only [hk1, rbx, go_sem, push_cast, seval, ↓reduceIte, reduceCtorEq, Nat.zero_add, Nat.add_zero, Nat.zero_le, Nat.succ_ne_zero]
            have hK2 : outT Kr acc := by have this : outT Kr (acc ++ []) := hK; rw [List.append_nil] at this; exact this
            unfold outT at hK2
            refine ⟨_, .node 0 [] 0 0 acc, rfl, le_node (les_sl hS), by rw [Lg.size_node]; omega, ?_⟩
            simp only [go_sem, push_cast, seval, ↓reduceIte, reduceCtorEq, Nat.zero_add, Nat.add_zero, Nat.zero_le, Nat.succ_ne_zero]
            refine ⟨fun h => ?_, fun h => ?_⟩
            · rw [if_pos (by have := of_decide_eq_true h; omega)] at hK2
              exact ⟨_, .cons (le_node le_nil) (.cons (.rfl _) (.cons (.rfl _) .nil)), hK2⟩
            · rw [if_neg (by have := of_decide_eq_false h; omega)] at hK2
              exact ⟨_, .cons (le_node (les_sl hS)) (.cons (.rfl _) (.cons (.rfl _) .nil)), hK2⟩
          | false =>
            have hk1 : ((Lg.hd ts3).kind != 0) = true := by simp [bne, hk0]
            rw [items_step (by simpa using hk0)] at hK
            simp only [hk1, rbx, go_sem, push_cast, seval, ↓reduceIte, reduceCtorEq, Nat.zero_add, Nat.add_zero, Nat.zero_le, Nat.succ_ne_zero]
            refine draw_still (by kernel_rfl) ?_
            simp only [rbx, List.length_map, Int.toNat_natCast, hA3.i0, hA3.i1, hA3.get, tokD, go_sem, push_cast, seval, ↓reduceIte, reduceCtorEq, Nat.zero_add, Nat.add_zero, Nat.zero_le, Nat.succ_ne_zero]
            refine ⟨T, i3, ts3, 0, 0, 0, Lg.sFn, rfl, rfl, hA3, .inl ⟨rfl, fun h => ?_, fun h => ?_⟩⟩
            · have hit : Lg.item ts3 = Lg.fn (Lg.hd ts3).pos ts3.tail := by unfold Lg.item; rw [if_pos h]
              simp only [go_sem, push_cast, seval, ↓reduceIte, reduceCtorEq, Nat.zero_add, Nat.add_zero, Nat.zero_le, Nat.succ_ne_zero]
              refine ⟨(Lg.hd ts3).pos, T, i3 + 1, ts3.tail, 0, rfl, rfl, hA3.isT h, ?_⟩
              rw [← hit]
              refine itQ_bnd hK (fun p' c hc hE x i' ts' hb' hA' => ?_) (fun x ts4 i4 e hK hA4 => ?_)
              · simp only [go_sem, push_cast, seval, ↓reduceIte, reduceCtorEq, Nat.zero_add, Nat.add_zero, Nat.zero_le, Nat.succ_ne_zero]
                refine ⟨by simp only [List.length_cons] at hl; omega, by simp only [List.length_cons] at hl; omega, ?_⟩
                exact ⟨⟨.bad 86 ((d :: ds) ++ [exD x]) (acc ++ [x]) i' c p', Or.inr rfl, hc, ⟨ts', hA'⟩, hS.snoc (le_tree x), by rw [List.length_append, List.length_singleton]; omega, hE⟩, zsub (subm_put rfl (subm_put rfl (subm_put rfl subm_nix))) (subm_put rfl (subm_put rfl (subm_put (by simp [put, bkLV]) subm_nix))) (subm_put rfl subm_nix), Nat.succ_pos _⟩
              · have h1 := Lg.item_eats _ _ _ e
                have h2 := Lg.item_pay _ _ _ e
                simp only [go_sem, push_cast, seval, ↓reduceIte, reduceCtorEq, Nat.zero_add, Nat.add_zero, Nat.zero_le, Nat.succ_ne_zero]
                refine ⟨by simp only [List.length_cons] at hl; omega, by simp only [List.length_cons] at hl; omega, ?_⟩
                exact ⟨⟨.go 86 ((d :: ds) ++ [exD x]) (acc ++ [x]) i4 ts4, Or.inr rfl, hA4, hS.snoc (le_tree x), by rw [sizes_snoc]; omega, itQ_cons hK⟩, zsub (subm_put rfl (subm_put rfl (subm_put rfl subm_nix))) (subm_put rfl (subm_put rfl (subm_put (by simp [put, bkLV]) subm_nix))) (subm_put rfl subm_nix), by show ts4.length + 1 < ts3.length + 1; omega⟩
            · have hit : Lg.item ts3 = Lg.bnd (Lg.must Lg.sType ts3) fun _ ts' => Lg.typ (Lg.hd ts3).pos ts' := by unfold Lg.item; rw [if_neg (isT_false h)]
              have hit2 : ∀ x ts4, Lg.item ts3 = .ok (x, ts4) → ts4.length < ts3.length ∧ Lg.size x + 3 * ts4.length ≤ 3 * ts3.length := fun x ts4 e => ⟨Lg.item_eats _ _ _ e, Lg.item_pay _ _ _ e⟩
              rw [hit] at hit2
              rw [hit, bnd3] at hK
              simp only [go_sem, push_cast, seval, ↓reduceIte, reduceCtorEq, Nat.zero_add, Nat.add_zero, Nat.zero_le, Nat.succ_ne_zero]
              refine ⟨_, T, i3, ts3, 0, 0, 0, rfl, rfl, hA3, .inl ⟨rfl, itQ_bnd hK (fun p' c hc hE _ i' ts' hb' hA' => ?_) (fun _ ts5 i5 e5 hK hA5 => ?_)⟩⟩
              · have hc' : (c == 0) = false := by simpa using hc
                simp only [rbx, hc', go_sem, push_cast, seval, ↓reduceIte, reduceCtorEq, Nat.zero_add, Nat.add_zero, Nat.zero_le, Nat.succ_ne_zero]
                exact ⟨⟨.bad 86 (d :: ds) acc i' c p', Or.inr rfl, hc, ⟨ts', hA'⟩, hS, by omega, hE⟩, zsub (subm_put rfl (subm_put rfl (subm_put rfl subm_nix))) (subm_put rfl (subm_put rfl (subm_put rfl subm_nix))) (subm_put rfl subm_nix), Nat.succ_pos _⟩
              · simp only [rbx, go_sem, push_cast, seval, ↓reduceIte, reduceCtorEq, Nat.zero_add, Nat.add_zero, Nat.zero_le, Nat.succ_ne_zero]
                refine ⟨(Lg.hd ts3).pos, T, i5, ts5, 0, 0, 0, rfl, rfl, hA5, .inl ⟨rfl, itQ_bnd hK (fun p' c hc hE x i' ts' hb' hA' => ?_) (fun x ts4 i4 e hK hA4 => ?_)⟩⟩
                · simp only [go_sem, push_cast, seval, ↓reduceIte, reduceCtorEq, Nat.zero_add, Nat.add_zero, Nat.zero_le, Nat.succ_ne_zero]
                  refine ⟨by simp only [List.length_cons] at hl; omega, by simp only [List.length_cons] at hl; omega, ?_⟩
                  exact ⟨⟨.bad 86 ((d :: ds) ++ [exD x]) (acc ++ [x]) i' c p', Or.inr rfl, hc, ⟨ts', hA'⟩, hS.snoc (le_tree x), by rw [List.length_append, List.length_singleton]; omega, hE⟩, zsub (subm_put rfl (subm_put rfl (subm_put rfl subm_nix))) (subm_put rfl (subm_put rfl (subm_put (by simp [put, bkLV]) subm_nix))) (subm_put rfl subm_nix), Nat.succ_pos _⟩
                · obtain ⟨h1, h2⟩ := hit2 x ts4 (by rw [show Lg.must Lg.sType ts3 = _ from e5]; exact e)
                  simp only [go_sem, push_cast, seval, ↓reduceIte, reduceCtorEq, Nat.zero_add, Nat.add_zero, Nat.zero_le, Nat.succ_ne_zero]
                  refine ⟨by simp only [List.length_cons] at hl; omega, by simp only [List.length_cons] at hl; omega, ?_⟩
                  exact ⟨⟨.go 86 ((d :: ds) ++ [exD x]) (acc ++ [x]) i4 ts4, Or.inr rfl, hA4, hS.snoc (le_tree x), by rw [sizes_snoc]; omega, itQ_cons hK⟩, zsub (subm_put rfl (subm_put rfl (subm_put rfl subm_nix))) (subm_put rfl (subm_put rfl (subm_put (by simp [put, bkLV]) subm_nix))) (subm_put rfl subm_nix), by show ts4.length + 1 < ts3.length + 1; omega⟩
    | bad dd ds acc i3 c p' =>
      obtain ⟨hd, hc, ⟨ts', hA'⟩, hS, hn, hE⟩ := hq
      have hc' : (c == 0) = false := by simpa using hc
      have hcn : (c != 0) = true := by simpa using hc
      cases ds with
      | nil =>
        dsimp only [itF, itSt, bkLV, bkAr]
        simp only [rbx, go_sem, push_cast, seval, ↓reduceIte, reduceCtorEq, Nat.zero_add, Nat.add_zero, Nat.zero_le, Nat.succ_ne_zero]
        refine draw_still (by kernel_rfl) ?_
        simp only [rbx, hc', hcn, go_sem, push_cast, seval, ↓reduceIte, reduceCtorEq, Nat.zero_add, Nat.add_zero, Nat.zero_le, Nat.succ_ne_zero]
        refine draw_read [] [] (.take 1 (.take 5 (.rd 2 (.take 3 (.rd 6 (.take 7 (.all (.cons 0 (.all (.cons 4 (.all (.cons 8 (.all (.cons 9 (.take 10 (.take 11 .done)) .nil)) (.cons 9 (.take 10 (.all (.cons 8 (.take 11 .done) .nil))) .nil))) (.cons 8 (.all (.cons 4 (.all (.cons 9 (.take 10 (.take 11 .done)) .nil)) (.cons 9 (.all (.cons 4 (.take 10 (.take 11 .done)) .nil)) .nil))) (.cons 9 (.all (.cons 4 (.take 10 (.all (.cons 8 (.take 11 .done) .nil))) (.cons 8 (.all (.cons 4 (.take 10 (.take 11 .done)) .nil)) .nil))) .nil)))) (.cons 4 (.all (.cons 0 (.all (.cons 8 (.all (.cons 9 (.take 10 (.take 11 .done)) .nil)) (.cons 9 (.take 10 (.all (.cons 8 (.take 11 .done) .nil))) .nil))) (.cons 8 (.all (.cons 0 (.all (.cons 9 (.take 10 (.take 11 .done)) .nil)) .nil)) .nil))) (.cons 8 (.all (.cons 0 (.all (.cons 4 (.all (.cons 9 (.take 10 (.take 11 .done)) .nil)) (.cons 9 (.all (.cons 4 (.take 10 (.take 11 .done)) .nil)) .nil))) (.cons 4 (.all (.cons 0 (.all (.cons 9 (.take 10 (.take 11 .done)) .nil)) .nil)) .nil))) .nil)))))))))) (by kernel_rfl) (by kernel_rfl) ?_
        simp only [rbx, go_sem, push_cast, seval, ↓reduceIte, reduceCtorEq, Nat.zero_add, Nat.add_zero, Nat.zero_le, Nat.succ_ne_zero]
        repeat' apply And.intro
        all_goals exact ⟨_, .cons (le_node le_nil) (.cons (.rfl _) (.cons (.rfl _) .nil)), hE⟩
      | cons d ds =>
        dsimp only [itF, itSt, bkLV, bkAr]
        simp only [rbx, go_sem, push_cast, seval, ↓reduceIte, reduceCtorEq, Nat.zero_add, Nat.add_zero, Nat.zero_le, Nat.succ_ne_zero]
        refine draw_still (by kernel_rfl) ?_
        simp only [rbx, hc', hcn, go_sem, push_cast, seval, ↓reduceIte, reduceCtorEq, Nat.zero_add, Nat.add_zero, Nat.zero_le, Nat.succ_ne_zero]
        refine draw_read [] [] (.take 1 (.take 5 (.rd 2 (.take 3 (.rd 6 (.take 7 (.all (.cons 0 (.all (.cons 4 (.all (.cons 8 (.all (.cons 9 (.take 10 (.take 11 .done)) .nil)) (.cons 9 (.take 10 (.all (.cons 8 (.take 11 .done) .nil))) .nil))) (.cons 8 (.all (.cons 4 (.all (.cons 9 (.take 10 (.take 11 .done)) .nil)) (.cons 9 (.all (.cons 4 (.take 10 (.take 11 .done)) .nil)) .nil))) (.cons 9 (.all (.cons 4 (.take 10 (.all (.cons 8 (.take 11 .done) .nil))) (.cons 8 (.all (.cons 4 (.take 10 (.take 11 .done)) .nil)) .nil))) .nil)))) (.cons 4 (.all (.cons 0 (.all (.cons 8 (.all (.cons 9 (.take 10 (.take 11 .done)) .nil)) (.cons 9 (.take 10 (.all (.cons 8 (.take 11 .done) .nil))) .nil))) (.cons 8 (.all (.cons 0 (.all (.cons 9 (.take 10 (.take 11 .done)) .nil)) .nil)) .nil))) (.cons 8 (.all (.cons 0 (.all (.cons 4 (.all (.cons 9 (.take 10 (.take 11 .done)) .nil)) (.cons 9 (.all (.cons 4 (.take 10 (.take 11 .done)) .nil)) .nil))) (.cons 4 (.all (.cons 0 (.all (.cons 9 (.take 10 (.take 11 .done)) .nil)) .nil)) .nil))) .nil)))))))))) (by kernel_rfl) (by kernel_rfl) ?_
        simp only [rbx, go_sem, push_cast, seval, ↓reduceIte, reduceCtorEq, Nat.zero_add, Nat.add_zero, Nat.zero_le, Nat.succ_ne_zero]
        repeat' apply And.intro
        all_goals exact ⟨_, .cons (le_node le_nil) (.cons (.rfl _) (.cons (.rfl _) .nil)), hE⟩
end Lx
set_option linter.unusedSimpArgs false
set_option linter.unusedVariables false
set_option maxRecDepth 20000
namespace Lx
open Go
open Lg (Tok Tree)
open Go.Proofs (Tryz.prog)
open Go.Proofs.Tryz
mutual
theorem trR_self (pl : Bool) : ∀ t : Tree, Lg.TrR (plR pl) t t
  | .node k s n p ks => .node (by cases pl <;> simp [plR]) (trsR_self pl ks)
theorem trsR_self (pl : Bool) : ∀ ks : List Tree, Lg.TrsR (plR pl) ks ks
  | [] => .nil
  | k :: ks => .cons (trR_self pl k) (trsR_self pl ks)
end
theorem parse_size {l : Bs} {t : Tree} (h : Lg.parse l = .ok t) : Lg.size t ≤ 4096 := by
  unfold Lg.parse at h
  split at h
  · cases h
  · unfold Lg.parseToks at h
    split at h
    · cases h
    · split at h
      · cases h
      · rename_i hn
        cases h
        omega
def parT : Spec := fun ys bx Kr _ => ∃ l : Bs, ys = [.d (.st l)] ∧ Kr (.d (.bool true)) nix none
theorem lawParses_OK_of {l : Bs} {Kr : LV → Bx → Ar1 → Prop} {Kp : D → Bx → Prop} {bx : Bx} (_ : l.length ≤ 140737488351232) (hK : Kr (.d (.bool true)) nix none) : parT [.d (.st l)] bx Kr Kp := ⟨l, rfl, hK⟩
theorem parse_of {l : Bs} {ys : List LV} {bx : Bx} {Kr : LV → Bx → Ar1 → Prop} {Kp : D → Bx → Prop} (t : Tree) (a c : Int) (hy : ys = [.d (.st l)])
    (hp : (Lg.parse l = .ok t ∧ a = 0 ∧ c = 0) ∨ (Lg.parse l = .error (a, c) ∧ t = .node 0 [] 0 0 [])) (h : Kr (.tup [.d (treeD t), .d (.int .i64 a), .d (.int .i64 c)]) nix none) : parseS ys bx Kr Kp := by
  refine ⟨l, hy, ?_⟩
  rcases hp with ⟨e, rfl, rfl⟩ | ⟨e, rfl⟩
  · rw [e]; exact h
  · rw [e]; exact h
set_option maxHeartbeats 8000000 in
theorem lawParses_OK : OK Tryz.prog 3 parT := by
  refine fn_OK' mixes (E := EV) (sp := spL [(4, parseS), (5, parseS), (6, wakesS), (7, (alikeS 4096)), (8, (refS 4096))]) tl_ok tl_zok (OKs.ok ⟨Parse_OK, ⟨rparse_OK, ⟨wakes_OK, ⟨(alike_OK 4096 (by decide)), ⟨(ref_OK 4096 (by decide)), trivial⟩⟩⟩⟩⟩) func3 rfl ntmps3 results3 call3 [] none ?_
  rintro ys bx Kr Kp ⟨l, rfl, hK⟩
  refine ⟨[], rfl, trivial, by simp, ?_⟩
  obtain ⟨t, a, c, hp, hs⟩ : ∃ (t : Tree) (a c : Int), ((Lg.parse l = .ok t ∧ a = 0 ∧ c = 0) ∨ (Lg.parse l = .error (a, c) ∧ t = .node 0 [] 0 0 [])) ∧ Lg.size t ≤ 4096 := by
    cases e : Lg.parse l with
    | error q => exact ⟨.node 0 [] 0 0 [], q.1, q.2, .inr ⟨rfl, rfl⟩, by rw [Lg.size_node, Lg.sizes_nil]; decide⟩
    | ok t => exact ⟨t, 0, 0, .inl ⟨rfl, rfl, rfl⟩, parse_size e⟩
  simp only [go_sem, push_cast, seval, ↓reduceIte, reduceCtorEq, Nat.zero_add, Nat.add_zero, Nat.zero_le, Nat.succ_ne_zero]
  refine parse_of (l := l) t a c rfl hp ?_
  simp only [go_sem, push_cast, seval, ↓reduceIte, reduceCtorEq, Nat.zero_add, Nat.add_zero, Nat.zero_le, Nat.succ_ne_zero]
  refine parse_of (l := l) t a c rfl hp ?_
  simp only [go_sem, push_cast, seval, ↓reduceIte, reduceCtorEq, Nat.zero_add, Nat.add_zero, Nat.zero_le, Nat.succ_ne_zero]
  refine draw_read [3, 6] [] (.all (.cons 0 (.take 1 (.rd 2 (.rd 3 (.rd 4 (.rd 5 (.take 6 (.rd 7 (.rd 8 (.rd 9 (.rd 10 (.take 11 (.rd 12 (.rd 14 (.all (.cons 13 (.all (.cons 15 (.rd 16 (.take 17 .done)) .nil)) .nil))))))))))))))) .nil)) (by kernel_rfl) (by kernel_rfl) ?_
  simp only [go_sem, push_cast, seval, ↓reduceIte, reduceCtorEq, Nat.zero_add, Nat.add_zero, Nat.zero_le, Nat.succ_ne_zero]
  refine ⟨rfl, ?_⟩
  simp only [go_sem, push_cast, seval, ↓reduceIte, reduceCtorEq, Nat.zero_add, Nat.add_zero, Nat.zero_le, Nat.succ_ne_zero]
  refine ⟨_, t, rfl, le_tree t, hs, ?_⟩
  simp only [go_sem, push_cast, seval, ↓reduceIte, reduceCtorEq, Nat.zero_add, Nat.add_zero, Nat.zero_le, Nat.succ_ne_zero]
  refine ⟨_, _, t, t, true, rfl, .rfl _, le_tree t, trR_self true t, hs, ?_⟩
  simp only [go_sem, push_cast, seval, ↓reduceIte, reduceCtorEq, Nat.zero_add, Nat.add_zero, Nat.zero_le, Nat.succ_ne_zero]
  exact ⟨_, le_one (.rfl _), hK⟩
end Lx
