/-
  The parts SimpD Pn Po Pays.
-/
import Derived.Test.YtmebnccnmhndiaaDoorSimp
import Derived.Test.YtmebnccnmhndiaaDoorDefer
import Derived.Test.YtmebnccnmhndiaaDoorQb
import Derived.Test.YtmebnccnmhndiaaDoorLb
import Derived.Test.YtmebnccnmhndiaaDoorLexp
import Derived.Test.YtmebnccnmhndiaaDoorQa
/-
  Rules for functions with a deferred closure.
-/
set_option linter.unusedSimpArgs false
set_option linter.unusedVariables false
namespace Lx
open Go
@[go_sem ↓] theorem clK_normal (pk : List Nat) (K : Bx → Prop) (s : S) : clK pk K .normal s = (okD s.bx pk ∧ K (outB pk s.bx)) := (rfl)
@[go_sem ↓] theorem clK_ret (pk : List Nat) (K : Bx → Prop) (s : S) : clK pk K .ret s = (okD s.bx pk ∧ K (outB pk s.bx)) := (rfl)
@[go_sem ↓] theorem defQ_normal (E : Env) (sp : FuncId → Option SpecX) (d n : Nat) (cs : List Nat) (B2 : Code) (Sc : DSpec) (rs : List ResultVar) (Kr : LV → Bx → Ar1 → Prop) (s : S) :
    defQ E sp d n cs B2 Sc rs Kr .normal s = evW s (fun s => Hold (tailK E sp d n cs B2 Sc rs Kr s) ⟨⟩) ⟨⟩ := (rfl)
@[go_sem ↓] theorem defQ_ret (E : Env) (sp : FuncId → Option SpecX) (d n : Nat) (cs : List Nat) (B2 : Code) (Sc : DSpec) (rs : List ResultVar) (Kr : LV → Bx → Ar1 → Prop) (s : S) :
    defQ E sp d n cs B2 Sc rs Kr .ret s = resK E rs s fun xs => outK [] none xs s Kr := (rfl)
@[go_sem ↓] theorem finQ_normal (E : Env) (n : Nat) (Sc : DSpec) (rs : List ResultVar) (Kr : LV → Bx → Ar1 → Prop) (s : S) : finQ E n Sc rs Kr .normal s = finK E n Sc rs Kr none s := (rfl)
@[go_sem ↓] theorem finQ_ret (E : Env) (n : Nat) (Sc : DSpec) (rs : List ResultVar) (Kr : LV → Bx → Ar1 → Prop) (s : S) : finQ E n Sc rs Kr .ret s = finK E n Sc rs Kr none s := (rfl)
@[go_sem ↓] theorem finK_eq (E : Env) (n : Nat) (Sc : DSpec) (rs : List ResultVar) (Kr : LV → Bx → Ar1 → Prop) (mo : Option D) (s : S) : finK E n Sc rs Kr mo s = evW s (fun s => Hold (finK E n Sc rs Kr mo s) ⟨⟩) ⟨⟩ := (rfl)
theorem fin_use {E : Env} {n : Nat} {Sc : DSpec} {rs : List ResultVar} {Kr : LV → Bx → Ar1 → Prop} {mo : Option D} {s : S} {w : Ph (finK E n Sc rs Kr mo s)} (l bl : List Nat) (h : frzN l s fun s => blurN bl s fun s => finK1 E n Sc rs Kr mo s) : Hold (finK E n Sc rs Kr mo s) w := ⟨l, bl, h⟩
@[go_sem ↓] theorem blurN_nil (s : S) (K : S → Prop) : blurN [] s K = K s := (rfl)
@[go_sem ↓] theorem blurN_cons (k : Nat) (l : List Nat) (s : S) (K : S → Prop) : blurN (k :: l) s K = sm (s.bx k) fun b => evW s (fun s => evW b (fun b => Hold (blur1 s k b fun s => blurN l s K) ⟨⟩) ⟨⟩) ⟨⟩ := (rfl)
@[go_sem ↓] theorem frzN_nil (s : S) (K : S → Prop) : frzN [] s K = evW s K ⟨⟩ := (rfl)
@[go_sem ↓] theorem frzN_cons (r : Nat) (l : List Nat) (s : S) (K : S → Prop) : frzN (r :: l) s K = sm (s.ar r) fun a => frzN l { s with bx := mapf (Box.fz r a.2.2.length (.sl a.1 a.2.2 false)) s.bx, ar := del r s.ar } K := (rfl)
@[go_sem ↓] theorem finK1_eq (E : Env) (n : Nat) (Sc : DSpec) (rs : List ResultVar) (Kr : LV → Bx → Ar1 → Prop) (mo : Option D) (s : S) :
    finK1 E n Sc rs Kr mo s = (evW (capK n) (fun ks => okB s.bx ks ∧ evW s (fun s => Hold (Sc mo (fp ks s.bx) fun bx4 => resK E rs { s with bx := mrg ks bx4 s.bx } fun xs => outK [] none xs { s with bx := mrg ks bx4 s.bx } Kr) ⟨⟩) ⟨⟩) ⟨⟩) := (rfl)
@[push_cast] theorem capK_1 : capK 1 = [1000] := (rfl)
@[push_cast] theorem capK_2 : capK 2 = [1000, 1001] := (rfl)
@[push_cast] theorem capK_3 : capK 3 = [1000, 1001, 1002] := (rfl)
@[push_cast] theorem capK_4 : capK 4 = [1000, 1001, 1002, 1003] := (rfl)
@[push_cast] theorem recD_none : recD none = .imm .nilIface := (rfl)
@[push_cast] theorem recD_some (d : D) : recD (some d) = d := (rfl)
@[push_cast] theorem bps_1 : bps 1 = [.bp 1000 0] := (rfl)
@[push_cast] theorem bps_2 : bps 2 = [.bp 1000 0, .bp 1001 0] := (rfl)
@[push_cast] theorem bps_3 : bps 3 = [.bp 1000 0, .bp 1001 0, .bp 1002 0] := (rfl)
@[push_cast] theorem bps_4 : bps 4 = [.bp 1000 0, .bp 1001 0, .bp 1002 0, .bp 1003 0] := (rfl)
@[push_cast] theorem laysl_nil : laysl [] = nix := (rfl)
@[push_cast] theorem laysl_cons (i : Nat) (x : LV) (l : List (Nat × LV)) : laysl ((i, x) :: l) = put i x (laysl l) := (rfl)
@[push_cast] theorem fpl_nil (bx : Bx) (i : Nat) : fpl bx i [] = nix := (rfl)
@[push_cast] theorem fpl_cons (bx : Bx) (i k : Nat) (ks : List Nat) : fpl bx i (k :: ks) = match bx k with | some b => put i b (fpl bx (i + 1) ks) | none => fpl bx (i + 1) ks := (rfl)
theorem tail_use {E : Env} {sp : FuncId → Option SpecX} {d n : Nat} {cs : List Nat} {B2 : Code} {Sc : DSpec} {rs : List ResultVar} {Kr : LV → Bx → Ar1 → Prop} {s : S} {w : Ph (tailK E sp d n cs B2 Sc rs Kr s)}
    (ks : List Nat) (L : List (Nat × LV)) (h1 : d < s.n) (h2 : ∀ p ∈ L, p.1 ≠ d) (h3 : nodup ks = true) (h4 : okB s.bx ks) (h5 : n ≤ ks.length) (h6 : cs.map s.tm = (ks.take n).map (fun k => some (.bp k 0))) (h7 : ∀ p ∈ L, s.tm p.1 = some p.2) (h8 : ∀ k ∈ kyss (L.map (·.2)), k ∈ ks)
    (h : evW (⟨s.n, laysl (L.map fun p => (p.1, ren ks p.2)), fpl s.bx 1000 ks, nix⟩ : S) (fun s2 => cK E sp B2 s2 (finQ E n Sc rs Kr) (fun d s' => finK E n Sc rs Kr (some d) s')) ⟨⟩) : Hold (tailK E sp d n cs B2 Sc rs Kr s) w :=
  ⟨ks, L, h1, h2, h3, h4, h5, h6, h7, h8, h⟩
@[push_cast] theorem mrg_three (k1 k2 k3 : Nat) (B1 B2 B3 : Box) (bx : Bx) : mrg [k1, k2, k3] (put 1000 B1 (put 1001 B2 (put 1002 B3 nix))) bx = put k1 B1 (put k2 B2 (put k3 B3 bx)) := by
  funext j
  by_cases e1 : j = k1
  · subst e1; simp [mrg, ixof, put]
  · by_cases e2 : j = k2
    · subst e2; simp [mrg, ixof, put, e1]
    · by_cases e3 : j = k3
      · subst e3; simp [mrg, ixof, put, e1, e2]
      · simp [mrg, put, e1, e2, e3]
theorem opsL_use {E : Env} {sp : FuncId → Option SpecX} {ops : Array Oper} {l : List Oper} {s : S} {K : S → Prop} {Kp : D → S → Prop}
    (h : evW (ops.toList.map (·.dst)) (fun ds => evW (l.map o3) (fun l => opsM E sp ds l s K Kp) ⟨⟩) ⟨⟩) : opsL E sp ops l s K Kp := (opsL_eq E sp ops l s K Kp).symm ▸ h
end Lx
/-
  The closure that turns a fault into a result.
-/
set_option linter.unusedSimpArgs false
set_option linter.unusedVariables false
set_option maxRecDepth 20000
namespace Lx
open Go
open Lg (Tok Tree)
open Go.Proofs (Tryd.prog)
open Go.Proofs.Tryd

/-- A result's three boxes: a tree's cells, a place, an error. -/
def rbox (x : List D) (a e : Int) : Bx := put 1000 ⟨x.map .d, 36⟩ (put 1001 ⟨[.d (.int .i64 a)], 3⟩ (put 1002 ⟨[.d (.int .i64 e)], 37⟩ nix))
def zeroN : List D := [.int .i64 0, .st [], .int .i64 0, .int .i64 0, .imm (.slice none 0 0)]
def recS : DSpec := fun m bx K => ∃ x1 x2 x3 x4 x5 a e, bx 1000 = some ⟨[.d x1, .d x2, .d x3, .d x4, .d x5], 36⟩ ∧ bx 1001 = some ⟨[.d (.int .i64 a)], 3⟩ ∧ bx 1002 = some ⟨[.d (.int .i64 e)], 37⟩ ∧
  match m with
  | none => K (rbox [x1, x2, x3, x4, x5] a e)
  | some d => ∃ p c, d = .ifc 61 (.ag [.int .i64 p, .int .i64 c]) ∧ K (rbox zeroN p c)

theorem rec_OK : OKD Tryd.prog 19 3 recS := by
  refine clos_OKD mixes (E := EV) (sp := spL []) tl_ok tl_zok (OKs.ok trivial) func19 rfl ntmps19 results19 rfl rfl rfl call19 ?_
  rintro mo bx K ⟨x1, x2, x3, x4, x5, a, e, h0, h1, h2, hK⟩
  refine ⟨[(1000, ⟨[.d x1, .d x2, .d x3, .d x4, .d x5], 36⟩), (1001, ⟨[.d (.int .i64 a)], 3⟩), (1002, ⟨[.d (.int .i64 e)], 37⟩)], rfl, ⟨by decide, h0, by decide, h1, by decide, h2, trivial⟩, by decide, by decide, ?_⟩
  refine opsL_use ?_
  cases mo with
  | none =>
    simp only [go_sem, push_cast, seval, ↓reduceIte, reduceCtorEq, Nat.zero_add, Nat.add_zero, Nat.zero_le, Nat.succ_ne_zero]
    exact hK
  | some d =>
    obtain ⟨p, c, rfl, hK⟩ := hK
    simp only [go_sem, push_cast, seval, ↓reduceIte, reduceCtorEq, Nat.zero_add, Nat.add_zero, Nat.zero_le, Nat.succ_ne_zero]
    refine draw_use (.take 1 (.take 3 (.all (.cons 0 (.all (.cons 2 (.all (.cons 4 (.all (.cons 5 (.all (.cons 6 (.all (.cons 7 .done .nil)) .nil)) .nil)) (.cons 5 (.all (.cons 4 (.all (.cons 6 (.all (.cons 7 .done .nil)) .nil)) (.cons 6 (.all (.cons 4 (.all (.cons 7 .done .nil)) .nil)) .nil))) .nil))) (.cons 4 (.all (.cons 2 (.all (.cons 5 (.all (.cons 6 (.all (.cons 7 .done .nil)) .nil)) .nil)) (.cons 5 (.all (.cons 2 (.all (.cons 6 (.all (.cons 7 .done .nil)) .nil)) .nil)) .nil))) (.cons 5 (.all (.cons 2 (.all (.cons 4 (.all (.cons 6 (.all (.cons 7 .done .nil)) .nil)) (.cons 6 (.all (.cons 4 (.all (.cons 7 .done .nil)) .nil)) .nil))) (.cons 4 (.all (.cons 2 (.all (.cons 6 (.all (.cons 7 .done .nil)) .nil)) .nil)) .nil))) .nil)))) (.cons 2 (.all (.cons 0 (.all (.cons 4 (.all (.cons 5 (.all (.cons 6 (.all (.cons 7 .done .nil)) .nil)) .nil)) (.cons 5 (.all (.cons 4 (.all (.cons 6 (.all (.cons 7 .done .nil)) .nil)) (.cons 6 (.all (.cons 4 (.all (.cons 7 .done .nil)) .nil)) .nil))) .nil))) (.cons 4 (.all (.cons 0 (.all (.cons 5 (.all (.cons 6 (.all (.cons 7 .done .nil)) .nil)) .nil)) .nil)) .nil))) (.cons 4 (.all (.cons 0 (.all (.cons 2 (.all (.cons 5 (.all (.cons 6 (.all (.cons 7 .done .nil)) .nil)) .nil)) (.cons 5 (.all (.cons 2 (.all (.cons 6 (.all (.cons 7 .done .nil)) .nil)) .nil)) .nil))) (.cons 2 (.all (.cons 0 (.all (.cons 5 (.all (.cons 6 (.all (.cons 7 .done .nil)) .nil)) .nil)) .nil)) .nil))) .nil)))))) (by kernel_rfl) (by kernel_rfl) ?_
    simp only [go_sem, push_cast, seval, ↓reduceIte, reduceCtorEq, Nat.zero_add, Nat.add_zero, Nat.zero_le, Nat.succ_ne_zero]
    repeat' apply And.intro
    all_goals exact hK

end Lx
/-
  Reading a text.
-/
set_option linter.unusedSimpArgs false
set_option linter.unusedVariables false
set_option maxRecDepth 20000
namespace Lx
open Go
open Lg (Tok Tree)
open Go.Proofs (Tryd.prog)
open Go.Proofs.Tryd

def parseS : Spec := fun ys bx Kr _ => ∃ l, ys = [.d (.st l)] ∧ match Lg.parse l with
  | .ok t => Kr (.tup [.d (treeD t), .d (.int .i64 0), .d (.int .i64 0)]) nix none
  | .error (a, c) => Kr (.tup [.d (treeD (.node 0 [] 0 0 [])), .d (.int .i64 a), .d (.int .i64 c)]) nix none
abbrev EP : Env := mkE false (fun _ => false) (fun j => !(j == 2 || j == 3 || j == 4))

theorem set_kids (y : Tree) (acc : List Tree) (u : D) (x : Tree) : (treeDs (y :: acc) ++ [u]).set ((acc.length : Int) + 1).toNat (treeD x) = treeDs (y :: acc) ++ [treeD x] := by
  have e : ((acc.length : Int) + 1).toNat = (treeDs (y :: acc)).length := by rw [treeDs_length, List.length_cons]; omega
  rw [e]; simp
theorem sizes_snoc (xs : List Tree) (x : Tree) : Lg.sizes (xs ++ [x]) = Lg.sizes xs + Lg.size x := by
  induction xs with
  | nil => simp [Lg.sizes]
  | cons y xs ih => simp only [List.cons_append, Lg.sizes, ih]; omega

theorem fnX_OK : OK Tryd.prog 22 (fun ys bx Kr Kp => ∃ at_, fnS at_ ys bx Kr Kp) where
  enters := call22
  calls ys bx Kr Kp h := by obtain ⟨at_, h⟩ := h; exact (fn_OK_ expr_OK at_).calls ys bx Kr Kp h
theorem typX_OK : OK Tryd.prog 24 (fun ys bx Kr Kp => ∃ at_, parS treeD (Lg.typ at_) [.d (.int .i64 at_)] ys bx Kr Kp) where
  enters := call24
  calls ys bx Kr Kp h := by obtain ⟨at_, h⟩ := h; exact (typ_OK at_).calls ys bx Kr Kp h
theorem set_last (xs : List D) (x y : D) : (xs ++ [x]).set xs.length y = xs ++ [y] := by simp

/-- What is asked of a fault; of what was read. -/
def outE (Kr : LV → Bx → Ar1 → Prop) (a c : Int) : Prop := Kr (.tup [.d (treeD (.node 0 [] 0 0 [])), .d (.int .i64 a), .d (.int .i64 c)]) nix none
def outT (Kr : LV → Bx → Ar1 → Prop) (xs : List Tree) : Prop := if 4096 < Lg.size (.node 0 [] 0 0 xs) then outE Kr 0 22 else Kr (.tup [.d (treeD (.node 0 [] 0 0 xs)), .d (.int .i64 0), .d (.int .i64 0)]) nix none

set_option maxHeartbeats 4000000 in
theorem parse_OK (hpay : ∀ ts x ts', Lg.item ts = .ok (x, ts') → Lg.size x + 3 * ts'.length ≤ 3 * ts.length) (htoks : OK Tryd.prog 18 toksS) : OK Tryd.prog 10 parseS := by
  refine fn_OKD mixes (E := EP) (sp := spL [(18, toksS), (20, peekS), (21, hasS), (22, .a fun ys bx Kr Kp => ∃ at_, fnS at_ ys bx Kr Kp), (24, .a fun ys bx Kr Kp => ∃ at_, parS treeD (Lg.typ at_) [.d (.int .i64 at_)] ys bx Kr Kp), (23, mustS), (25, sizeS 9223372036854775807)]) tl_ok tl_zok (OKs.ok ⟨htoks, peek_OK, has_OK, fnX_OK, typX_OK, must_OK, size_OK _ (by decide), trivial⟩)
    (cs := [2, 3, 4]) (n := 3) (d := 19) rec_OK func10 rfl ntmps10 results10 call10 (.more _ (.more _ (.one _ _))) rfl rfl rfl rfl rfl rfl rfl rfl ?_
  rintro ys bx Kr Kp ⟨l, rfl, hK⟩
  refine ⟨by simp, ?_⟩
  simp only [go_sem, push_cast, seval, ↓reduceIte, reduceCtorEq, Nat.zero_add, Nat.add_zero, Nat.zero_le, Nat.succ_ne_zero]
  refine ⟨l, rfl, ?_⟩
  unfold Lg.parse at hK
  cases htk : Lg.toks l with
  | error p =>
    obtain ⟨a, c⟩ := p
    rw [htk] at hK
    intro hc
    simp only [go_sem, push_cast, seval, ↓reduceIte, reduceCtorEq, Nat.zero_add, Nat.add_zero, Nat.zero_le, Nat.succ_ne_zero]
    refine ⟨fun h => ?_, fun h => ?_⟩
    · refine draw_use (.all (.cons 0 (.all (.cons 1 (.all (.cons 2 (.all (.cons 3 (.all (.cons 4 (.all (.cons 5 .done .nil)) .nil)) .nil)) (.cons 3 (.all (.cons 2 (.all (.cons 4 (.all (.cons 5 .done .nil)) .nil)) (.cons 4 (.all (.cons 2 (.all (.cons 5 .done .nil)) .nil)) .nil))) .nil))) (.cons 2 (.all (.cons 1 (.all (.cons 3 (.all (.cons 4 (.all (.cons 5 .done .nil)) .nil)) .nil)) (.cons 3 (.all (.cons 1 (.all (.cons 4 (.all (.cons 5 .done .nil)) .nil)) .nil)) .nil))) (.cons 3 (.all (.cons 1 (.all (.cons 2 (.all (.cons 4 (.all (.cons 5 .done .nil)) .nil)) (.cons 4 (.all (.cons 2 (.all (.cons 5 .done .nil)) .nil)) .nil))) (.cons 2 (.all (.cons 1 (.all (.cons 4 (.all (.cons 5 .done .nil)) .nil)) .nil)) .nil))) .nil)))) (.cons 1 (.all (.cons 0 (.all (.cons 2 (.all (.cons 3 (.all (.cons 4 (.all (.cons 5 .done .nil)) .nil)) .nil)) (.cons 3 (.all (.cons 2 (.all (.cons 4 (.all (.cons 5 .done .nil)) .nil)) (.cons 4 (.all (.cons 2 (.all (.cons 5 .done .nil)) .nil)) .nil))) .nil))) (.cons 2 (.all (.cons 0 (.all (.cons 3 (.all (.cons 4 (.all (.cons 5 .done .nil)) .nil)) .nil)) .nil)) .nil))) (.cons 2 (.all (.cons 0 (.all (.cons 1 (.all (.cons 3 (.all (.cons 4 (.all (.cons 5 .done .nil)) .nil)) .nil)) (.cons 3 (.all (.cons 1 (.all (.cons 4 (.all (.cons 5 .done .nil)) .nil)) .nil)) .nil))) (.cons 1 (.all (.cons 0 (.all (.cons 3 (.all (.cons 4 (.all (.cons 5 .done .nil)) .nil)) .nil)) .nil)) .nil))) .nil)))) (by kernel_rfl) (by kernel_rfl) ?_
      simp only [go_sem, push_cast, seval, ↓reduceIte, reduceCtorEq, Nat.zero_add, Nat.add_zero, Nat.zero_le, Nat.succ_ne_zero]
      repeat' apply And.intro
      all_goals exact ⟨_, .cons (le_node le_nil) (.cons (.rfl _) (.cons (.rfl _) .nil)), hK⟩
    · exact absurd (by simpa using h) hc
  | ok ts =>
    rw [htk] at hK
    intro hg
    simp only [go_sem, push_cast, seval, ↓reduceIte, reduceCtorEq, Nat.zero_add, Nat.add_zero, Nat.zero_le, Nat.succ_ne_zero]
    refine tail_use [2, 3, 4] [(2, .bp 2 0), (3, .bp 3 0), (4, .bp 4 0), (5, .d (.sl 4 (ts.map tokD) false))] ?_ ?_ rfl ?_ ?_ ?_ ?_ ?_ ?_
    · show 19 < 59; decide
    · intro p hp
      simp only [List.mem_cons, List.not_mem_nil, or_false] at hp
      rcases hp with rfl | rfl | rfl | rfl <;> simp
    · exact ⟨⟨_, rfl, rfl⟩, ⟨_, rfl, rfl⟩, ⟨_, rfl, rfl⟩, trivial⟩
    · decide
    · rfl
    · intro p hp
      simp only [List.mem_cons, List.not_mem_nil, or_false] at hp
      rcases hp with rfl | rfl | rfl | rfl <;> rfl
    · intro k hk
      simpa [kyss, kys] using hk
    simp only [go_sem, push_cast, seval, ↓reduceIte, reduceCtorEq, Nat.zero_add, Nat.add_zero, Nat.zero_le, Nat.succ_ne_zero]
    replace hK : post (Lg.items ts) (fun xs _ => outT Kr xs) (outE Kr) := by
      have hK' : (match Lg.parseToks ts with | .ok t => Kr (.tup [.d (treeD t), .d (.int .i64 0), .d (.int .i64 0)]) nix none | .error (a, c) => outE Kr a c) := hK
      unfold Lg.parseToks at hK'
      cases hit : Lg.items ts with
      | error p => obtain ⟨a, c⟩ := p; rw [hit] at hK'; exact hK'
      | ok p =>
        obtain ⟨xs, ts'⟩ := p
        rw [hit] at hK'
        show outT Kr xs
        unfold outT
        simp only at hK'
        split
        · rename_i h; rw [if_pos h] at hK'; exact hK'
        · rename_i h; rw [if_neg h] at hK'; exact hK'
    have hl0 := hg.2
    refine loop_use (T := { t : Nat × List Tree × List Tok // (t.1 = 39 ∨ t.1 = 51) ∧ Good t.2.2 ∧ Lg.sizes t.2.1 + 3 * t.2.2.length ≤ 6291456 ∧ post (Lg.items t.2.2) (fun xs _ => outT Kr (t.2.1 ++ xs)) (outE Kr) })
      (fun t => ⟨59, put 2 (.bp 1000 0) (put 3 (.bp 1001 0) (put 4 (.bp 1002 0) (put 6 (.bp 22 0) nix))), put 22 (pbox t.1.2.2 0) (put 1000 ⟨[.d (.int .i64 0), .d (.st []), .d (.int .i64 0), .d (.int .i64 0), kidsLV t.1.1 t.1.2.1], 36⟩ (put 1001 ⟨[.d (.int .i64 0)], 3⟩ (put 1002 ⟨[.d (.int .i64 0)], 37⟩ nix))), kidsAr t.1.1 t.1.2.1⟩) (fun t => t.1.2.2.length)
      ⟨(39, [], ts), .inl rfl, hg, by simp only [Lg.sizes]; omega, post_mono hK (fun _ _ h => h) (fun _ _ _ h => h)⟩
      ⟨rfl, subm_put rfl (subm_put rfl (subm_put rfl (subm_put rfl subm_nix))), subm_put rfl (subm_put rfl (subm_put rfl (subm_put rfl subm_nix))), subm_nix⟩ ?_
    rintro ⟨⟨d, acc, ts2⟩, hd0, hg20, hb20, hK0⟩
    have hd : d = 39 ∨ d = 51 := hd0
    have hg2 : Good ts2 := hg20
    have hb2 : Lg.sizes acc + 3 * ts2.length ≤ 6291456 := hb20
    have hK : post (Lg.items ts2) (fun xs _ => outT Kr (acc ++ xs)) (outE Kr) := hK0
    have hlen := hg2.2
    have hls := len_sizes acc
    rw [Lg.items] at hK
    simp only [go_sem, push_cast, seval, ↓reduceIte, reduceCtorEq, Nat.zero_add, Nat.add_zero, Nat.zero_le, Nat.succ_ne_zero]
    refine ⟨ts2, 0, rfl, rfl, hg2, ?_⟩
    simp only [go_sem, push_cast, seval, ↓reduceIte, reduceCtorEq, Nat.zero_add, Nat.add_zero, Nat.zero_le, Nat.succ_ne_zero]
    refine ⟨fun h => ?_, fun h => ?_⟩
    · rw [if_neg (by simpa using h)] at hK
      refine ⟨ts2, 0, rfl, rfl, hg2, ?_⟩
      simp only [go_sem, push_cast, seval, ↓reduceIte, reduceCtorEq, Nat.zero_add, Nat.add_zero, Nat.zero_le, Nat.succ_ne_zero]
      refine ⟨ts2, 0, Lg.sFn, rfl, rfl, hg2, fun h2 => ?_, fun h2 => ?_⟩
      · have hi : Lg.item ts2 = Lg.fn (Lg.hd ts2).pos ts2.tail := by unfold Lg.item; rw [if_pos h2]
        rcases hd with rfl | rfl
        · cases acc with
          | nil =>
            simp only [go_sem, push_cast, seval, ↓reduceIte, reduceCtorEq, Nat.zero_add, Nat.add_zero, Nat.zero_le, Nat.succ_ne_zero]
            refine draw_use (.take 0 (.take 2 (.take 3 (.all (.cons 1 (.all (.cons 4 (.all (.cons 5 (.all (.cons 6 (.all (.cons 7 (.take 10 (.all (.cons 8 (.all (.cons 9 (.all (.cons 11 .done .nil)) (.cons 11 (.all (.cons 9 .done .nil)) .nil))) (.cons 11 (.all (.cons 8 (.all (.cons 9 .done .nil)) .nil)) .nil)))) .nil)) .nil)) (.cons 6 (.all (.cons 5 (.all (.cons 7 (.take 10 (.all (.cons 8 (.all (.cons 9 (.all (.cons 11 .done .nil)) (.cons 11 (.all (.cons 9 .done .nil)) .nil))) (.cons 11 (.all (.cons 8 (.all (.cons 9 .done .nil)) .nil)) .nil)))) .nil)) .nil)) .nil))) (.cons 5 (.all (.cons 4 (.all (.cons 6 (.all (.cons 7 (.take 10 (.all (.cons 8 (.all (.cons 9 (.all (.cons 11 .done .nil)) (.cons 11 (.all (.cons 9 .done .nil)) .nil))) (.cons 11 (.all (.cons 8 (.all (.cons 9 .done .nil)) .nil)) .nil)))) .nil)) .nil)) (.cons 6 (.all (.cons 4 (.all (.cons 7 (.take 10 (.all (.cons 8 (.all (.cons 9 (.all (.cons 11 .done .nil)) (.cons 11 (.all (.cons 9 .done .nil)) .nil))) (.cons 11 (.all (.cons 8 (.all (.cons 9 .done .nil)) .nil)) .nil)))) .nil)) .nil)) .nil))) (.cons 6 (.all (.cons 4 (.all (.cons 5 (.all (.cons 7 (.take 10 (.all (.cons 8 (.all (.cons 9 (.all (.cons 11 .done .nil)) (.cons 11 (.all (.cons 9 .done .nil)) .nil))) (.cons 11 (.all (.cons 8 (.all (.cons 9 .done .nil)) .nil)) .nil)))) .nil)) .nil)) (.cons 5 (.all (.cons 4 (.all (.cons 7 (.take 10 (.all (.cons 8 (.all (.cons 9 (.all (.cons 11 .done .nil)) (.cons 11 (.all (.cons 9 .done .nil)) .nil))) (.cons 11 (.all (.cons 8 (.all (.cons 9 .done .nil)) .nil)) .nil)))) .nil)) .nil)) .nil))) .nil)))) (.cons 4 (.all (.cons 1 (.all (.cons 5 (.all (.cons 6 (.all (.cons 7 (.take 10 (.all (.cons 8 (.all (.cons 9 (.all (.cons 11 .done .nil)) (.cons 11 (.all (.cons 9 .done .nil)) .nil))) (.cons 11 (.all (.cons 8 (.all (.cons 9 .done .nil)) .nil)) .nil)))) .nil)) .nil)) (.cons 6 (.all (.cons 5 (.all (.cons 7 (.take 10 (.all (.cons 8 (.all (.cons 9 (.all (.cons 11 .done .nil)) (.cons 11 (.all (.cons 9 .done .nil)) .nil))) (.cons 11 (.all (.cons 8 (.all (.cons 9 .done .nil)) .nil)) .nil)))) .nil)) .nil)) .nil))) (.cons 6 (.all (.cons 1 (.all (.cons 5 (.all (.cons 7 (.take 10 (.all (.cons 8 (.all (.cons 9 (.all (.cons 11 .done .nil)) (.cons 11 (.all (.cons 9 .done .nil)) .nil))) (.cons 11 (.all (.cons 8 (.all (.cons 9 .done .nil)) .nil)) .nil)))) .nil)) .nil)) .nil)) .nil))) (.cons 6 (.all (.cons 1 (.all (.cons 4 (.all (.cons 5 (.all (.cons 7 (.take 10 (.all (.cons 8 (.all (.cons 9 (.all (.cons 11 .done .nil)) (.cons 11 (.all (.cons 9 .done .nil)) .nil))) (.cons 11 (.all (.cons 8 (.all (.cons 9 .done .nil)) .nil)) .nil)))) .nil)) .nil)) (.cons 5 (.all (.cons 4 (.all (.cons 7 (.take 10 (.all (.cons 8 (.all (.cons 9 (.all (.cons 11 .done .nil)) (.cons 11 (.all (.cons 9 .done .nil)) .nil))) (.cons 11 (.all (.cons 8 (.all (.cons 9 .done .nil)) .nil)) .nil)))) .nil)) .nil)) .nil))) (.cons 4 (.all (.cons 1 (.all (.cons 5 (.all (.cons 7 (.take 10 (.all (.cons 8 (.all (.cons 9 (.all (.cons 11 .done .nil)) (.cons 11 (.all (.cons 9 .done .nil)) .nil))) (.cons 11 (.all (.cons 8 (.all (.cons 9 .done .nil)) .nil)) .nil)))) .nil)) .nil)) .nil)) .nil))) .nil))))))) (by kernel_rfl) (by kernel_rfl) ?_
            simp only [go_sem, push_cast, seval, ↓reduceIte, reduceCtorEq, Nat.zero_add, Nat.add_zero, Nat.zero_le, Nat.succ_ne_zero]
            repeat' apply And.intro
            all_goals first
              | omega
              | (refine ⟨(Lg.hd ts2).pos, ts2.tail, rfl, rfl, hg2.isT h2, ?_⟩
                 rw [hi] at hK
                 generalize e3 : Lg.fn (Lg.hd ts2).pos ts2.tail = r at hK hi ⊢
                 cases r with
                 | error q =>
                   obtain ⟨a, c⟩ := q
                   intro ts' d'
                   simp only [go_sem, push_cast, seval, ↓reduceIte, reduceCtorEq, Nat.zero_add, Nat.add_zero, Nat.zero_le, Nat.succ_ne_zero]
                   refine fin_use [] [1000] ?_
                   simp only [go_sem, push_cast, seval, ↓reduceIte, reduceCtorEq, Nat.zero_add, Nat.add_zero, Nat.zero_le, Nat.succ_ne_zero]
                   intro vs hvs _
                   match vs, hvs with
                   | [v1, v2, v3, v4, v5], _ =>
                   simp only [go_sem, push_cast, seval, ↓reduceIte, reduceCtorEq, Nat.zero_add, Nat.add_zero, Nat.zero_le, Nat.succ_ne_zero]
                   refine ⟨_, _, _, _, _, _, _, rfl, rfl, rfl, _, _, rfl, ?_⟩
                   simp only [rbox, zeroN, List.map_cons, List.map_nil, go_sem, push_cast, seval, ↓reduceIte, reduceCtorEq, Nat.zero_add, Nat.add_zero, Nat.zero_le, Nat.succ_ne_zero]
                   exact ⟨_, .cons (le_node le_nil) (.cons (.rfl _) (.cons (.rfl _) .nil)), hK⟩
                 | ok q =>
                   obtain ⟨x, ts3⟩ := q
                   intro hg3
                   have hl3 := Lg.item_eats _ _ _ hi
                   have hp := hpay _ _ _ hi
                   simp only [if_pos hl3] at hK
                   simp only [go_sem, push_cast, seval, ↓reduceIte, reduceCtorEq, Nat.zero_add, Nat.add_zero, Nat.zero_le, Nat.succ_ne_zero]
                   repeat' apply And.intro
                   all_goals first
                     | omega
                     | (simp only [List.length_append, treeDs_length, List.length_cons, List.length_nil]; done)
                     | (refine ⟨⟨(39, [] ++ [x], ts3), ?_, hg3, ?_, post_bnd hK (fun _ _ h => h) (fun xs ts' e h => ?_)⟩,
                         ⟨rfl, subm_put rfl (subm_put rfl (subm_put rfl (subm_put rfl subm_nix))), subm_put rfl (subm_put ?_ (subm_put rfl (subm_put rfl subm_nix))), ?_⟩, hl3⟩
                        · first | exact .inl rfl | exact .inr rfl
                        · show Lg.sizes ([] ++ [x]) + 3 * ts3.length ≤ 6291456
                          rw [sizes_snoc]; omega
                        · have h2 : outT Kr ([] ++ x :: xs) := h
                          simpa using h2
                        · show _ = some (Box.mk [_, _, _, _, kidsLV 39 ([] ++ [x])] _); rw [kidsLV_snoc]; rfl
                        · show subm _ (kidsAr 39 ([] ++ [x]))
                          refine subm_kids ?_
                          first | rfl | (show some (5, 36, _) = _; rw [set_kids])))
          | cons y acc =>
            simp only [List.length_cons] at hls
            simp only [go_sem, push_cast, seval, ↓reduceIte, reduceCtorEq, Nat.zero_add, Nat.add_zero, Nat.zero_le, Nat.succ_ne_zero]
            refine draw_use (.take 0 (.take 2 (.take 3 (.all (.cons 1 (.all (.cons 4 (.all (.cons 5 (.all (.cons 6 (.all (.cons 7 (.take 10 (.all (.cons 8 (.all (.cons 9 (.all (.cons 11 .done .nil)) (.cons 11 (.all (.cons 9 .done .nil)) .nil))) (.cons 11 (.all (.cons 8 (.all (.cons 9 .done .nil)) .nil)) .nil)))) .nil)) .nil)) (.cons 6 (.all (.cons 5 (.all (.cons 7 (.take 10 (.all (.cons 8 (.all (.cons 9 (.all (.cons 11 .done .nil)) (.cons 11 (.all (.cons 9 .done .nil)) .nil))) (.cons 11 (.all (.cons 8 (.all (.cons 9 .done .nil)) .nil)) .nil)))) .nil)) .nil)) .nil))) (.cons 5 (.all (.cons 4 (.all (.cons 6 (.all (.cons 7 (.take 10 (.all (.cons 8 (.all (.cons 9 (.all (.cons 11 .done .nil)) (.cons 11 (.all (.cons 9 .done .nil)) .nil))) (.cons 11 (.all (.cons 8 (.all (.cons 9 .done .nil)) .nil)) .nil)))) .nil)) .nil)) (.cons 6 (.all (.cons 4 (.all (.cons 7 (.take 10 (.all (.cons 8 (.all (.cons 9 (.all (.cons 11 .done .nil)) (.cons 11 (.all (.cons 9 .done .nil)) .nil))) (.cons 11 (.all (.cons 8 (.all (.cons 9 .done .nil)) .nil)) .nil)))) .nil)) .nil)) .nil))) (.cons 6 (.all (.cons 4 (.all (.cons 5 (.all (.cons 7 (.take 10 (.all (.cons 8 (.all (.cons 9 (.all (.cons 11 .done .nil)) (.cons 11 (.all (.cons 9 .done .nil)) .nil))) (.cons 11 (.all (.cons 8 (.all (.cons 9 .done .nil)) .nil)) .nil)))) .nil)) .nil)) (.cons 5 (.all (.cons 4 (.all (.cons 7 (.take 10 (.all (.cons 8 (.all (.cons 9 (.all (.cons 11 .done .nil)) (.cons 11 (.all (.cons 9 .done .nil)) .nil))) (.cons 11 (.all (.cons 8 (.all (.cons 9 .done .nil)) .nil)) .nil)))) .nil)) .nil)) .nil))) .nil)))) (.cons 4 (.all (.cons 1 (.all (.cons 5 (.all (.cons 6 (.all (.cons 7 (.take 10 (.all (.cons 8 (.all (.cons 9 (.all (.cons 11 .done .nil)) (.cons 11 (.all (.cons 9 .done .nil)) .nil))) (.cons 11 (.all (.cons 8 (.all (.cons 9 .done .nil)) .nil)) .nil)))) .nil)) .nil)) (.cons 6 (.all (.cons 5 (.all (.cons 7 (.take 10 (.all (.cons 8 (.all (.cons 9 (.all (.cons 11 .done .nil)) (.cons 11 (.all (.cons 9 .done .nil)) .nil))) (.cons 11 (.all (.cons 8 (.all (.cons 9 .done .nil)) .nil)) .nil)))) .nil)) .nil)) .nil))) (.cons 6 (.all (.cons 1 (.all (.cons 5 (.all (.cons 7 (.take 10 (.all (.cons 8 (.all (.cons 9 (.all (.cons 11 .done .nil)) (.cons 11 (.all (.cons 9 .done .nil)) .nil))) (.cons 11 (.all (.cons 8 (.all (.cons 9 .done .nil)) .nil)) .nil)))) .nil)) .nil)) .nil)) .nil))) (.cons 6 (.all (.cons 1 (.all (.cons 4 (.all (.cons 5 (.all (.cons 7 (.take 10 (.all (.cons 8 (.all (.cons 9 (.all (.cons 11 .done .nil)) (.cons 11 (.all (.cons 9 .done .nil)) .nil))) (.cons 11 (.all (.cons 8 (.all (.cons 9 .done .nil)) .nil)) .nil)))) .nil)) .nil)) (.cons 5 (.all (.cons 4 (.all (.cons 7 (.take 10 (.all (.cons 8 (.all (.cons 9 (.all (.cons 11 .done .nil)) (.cons 11 (.all (.cons 9 .done .nil)) .nil))) (.cons 11 (.all (.cons 8 (.all (.cons 9 .done .nil)) .nil)) .nil)))) .nil)) .nil)) .nil))) (.cons 4 (.all (.cons 1 (.all (.cons 5 (.all (.cons 7 (.take 10 (.all (.cons 8 (.all (.cons 9 (.all (.cons 11 .done .nil)) (.cons 11 (.all (.cons 9 .done .nil)) .nil))) (.cons 11 (.all (.cons 8 (.all (.cons 9 .done .nil)) .nil)) .nil)))) .nil)) .nil)) .nil)) .nil))) .nil))))))) (by kernel_rfl) (by kernel_rfl) ?_
            simp only [go_sem, push_cast, seval, ↓reduceIte, reduceCtorEq, Nat.zero_add, Nat.add_zero, Nat.zero_le, Nat.succ_ne_zero]
            repeat' apply And.intro
            all_goals first
              | omega
              | (refine ⟨(Lg.hd ts2).pos, ts2.tail, rfl, rfl, hg2.isT h2, ?_⟩
                 rw [hi] at hK
                 generalize e3 : Lg.fn (Lg.hd ts2).pos ts2.tail = r at hK hi ⊢
                 cases r with
                 | error q =>
                   obtain ⟨a, c⟩ := q
                   intro ts' d'
                   simp only [go_sem, push_cast, seval, ↓reduceIte, reduceCtorEq, Nat.zero_add, Nat.add_zero, Nat.zero_le, Nat.succ_ne_zero]
                   refine fin_use [] [1000] ?_
                   simp only [go_sem, push_cast, seval, ↓reduceIte, reduceCtorEq, Nat.zero_add, Nat.add_zero, Nat.zero_le, Nat.succ_ne_zero]
                   intro vs hvs _
                   match vs, hvs with
                   | [v1, v2, v3, v4, v5], _ =>
                   simp only [go_sem, push_cast, seval, ↓reduceIte, reduceCtorEq, Nat.zero_add, Nat.add_zero, Nat.zero_le, Nat.succ_ne_zero]
                   refine ⟨_, _, _, _, _, _, _, rfl, rfl, rfl, _, _, rfl, ?_⟩
                   simp only [rbox, zeroN, List.map_cons, List.map_nil, go_sem, push_cast, seval, ↓reduceIte, reduceCtorEq, Nat.zero_add, Nat.add_zero, Nat.zero_le, Nat.succ_ne_zero]
                   exact ⟨_, .cons (le_node le_nil) (.cons (.rfl _) (.cons (.rfl _) .nil)), hK⟩
                 | ok q =>
                   obtain ⟨x, ts3⟩ := q
                   intro hg3
                   have hl3 := Lg.item_eats _ _ _ hi
                   have hp := hpay _ _ _ hi
                   simp only [if_pos hl3] at hK
                   simp only [go_sem, push_cast, seval, ↓reduceIte, reduceCtorEq, Nat.zero_add, Nat.add_zero, Nat.zero_le, Nat.succ_ne_zero]
                   repeat' apply And.intro
                   all_goals first
                     | omega
                     | (simp only [List.length_append, treeDs_length, List.length_cons, List.length_nil]; done)
                     | (refine ⟨⟨(39, (y :: acc) ++ [x], ts3), ?_, hg3, ?_, post_bnd hK (fun _ _ h => h) (fun xs ts' e h => ?_)⟩,
                         ⟨rfl, subm_put rfl (subm_put rfl (subm_put rfl (subm_put rfl subm_nix))), subm_put rfl (subm_put ?_ (subm_put rfl (subm_put rfl subm_nix))), ?_⟩, hl3⟩
                        · first | exact .inl rfl | exact .inr rfl
                        · show Lg.sizes ((y :: acc) ++ [x]) + 3 * ts3.length ≤ 6291456
                          rw [sizes_snoc]; omega
                        · have h2 : outT Kr ((y :: acc) ++ x :: xs) := h
                          simpa using h2
                        · show _ = some (Box.mk [_, _, _, _, kidsLV 39 ((y :: acc) ++ [x])] _); rw [kidsLV_snoc]; rfl
                        · show subm _ (kidsAr 39 ((y :: acc) ++ [x]))
                          refine subm_kids ?_
                          first | rfl | (show some (5, 36, _) = _; rw [set_kids])))
        · cases acc with
          | nil =>
            simp only [go_sem, push_cast, seval, ↓reduceIte, reduceCtorEq, Nat.zero_add, Nat.add_zero, Nat.zero_le, Nat.succ_ne_zero]
            refine draw_use (.take 0 (.take 2 (.take 3 (.all (.cons 1 (.all (.cons 4 (.all (.cons 5 (.all (.cons 6 (.all (.cons 7 (.take 10 (.all (.cons 8 (.all (.cons 9 (.all (.cons 11 .done .nil)) (.cons 11 (.all (.cons 9 .done .nil)) .nil))) (.cons 11 (.all (.cons 8 (.all (.cons 9 .done .nil)) .nil)) .nil)))) .nil)) .nil)) (.cons 6 (.all (.cons 5 (.all (.cons 7 (.take 10 (.all (.cons 8 (.all (.cons 9 (.all (.cons 11 .done .nil)) (.cons 11 (.all (.cons 9 .done .nil)) .nil))) (.cons 11 (.all (.cons 8 (.all (.cons 9 .done .nil)) .nil)) .nil)))) .nil)) .nil)) .nil))) (.cons 5 (.all (.cons 4 (.all (.cons 6 (.all (.cons 7 (.take 10 (.all (.cons 8 (.all (.cons 9 (.all (.cons 11 .done .nil)) (.cons 11 (.all (.cons 9 .done .nil)) .nil))) (.cons 11 (.all (.cons 8 (.all (.cons 9 .done .nil)) .nil)) .nil)))) .nil)) .nil)) (.cons 6 (.all (.cons 4 (.all (.cons 7 (.take 10 (.all (.cons 8 (.all (.cons 9 (.all (.cons 11 .done .nil)) (.cons 11 (.all (.cons 9 .done .nil)) .nil))) (.cons 11 (.all (.cons 8 (.all (.cons 9 .done .nil)) .nil)) .nil)))) .nil)) .nil)) .nil))) (.cons 6 (.all (.cons 4 (.all (.cons 5 (.all (.cons 7 (.take 10 (.all (.cons 8 (.all (.cons 9 (.all (.cons 11 .done .nil)) (.cons 11 (.all (.cons 9 .done .nil)) .nil))) (.cons 11 (.all (.cons 8 (.all (.cons 9 .done .nil)) .nil)) .nil)))) .nil)) .nil)) (.cons 5 (.all (.cons 4 (.all (.cons 7 (.take 10 (.all (.cons 8 (.all (.cons 9 (.all (.cons 11 .done .nil)) (.cons 11 (.all (.cons 9 .done .nil)) .nil))) (.cons 11 (.all (.cons 8 (.all (.cons 9 .done .nil)) .nil)) .nil)))) .nil)) .nil)) .nil))) .nil)))) (.cons 4 (.all (.cons 1 (.all (.cons 5 (.all (.cons 6 (.all (.cons 7 (.take 10 (.all (.cons 8 (.all (.cons 9 (.all (.cons 11 .done .nil)) (.cons 11 (.all (.cons 9 .done .nil)) .nil))) (.cons 11 (.all (.cons 8 (.all (.cons 9 .done .nil)) .nil)) .nil)))) .nil)) .nil)) (.cons 6 (.all (.cons 5 (.all (.cons 7 (.take 10 (.all (.cons 8 (.all (.cons 9 (.all (.cons 11 .done .nil)) (.cons 11 (.all (.cons 9 .done .nil)) .nil))) (.cons 11 (.all (.cons 8 (.all (.cons 9 .done .nil)) .nil)) .nil)))) .nil)) .nil)) .nil))) (.cons 6 (.all (.cons 1 (.all (.cons 5 (.all (.cons 7 (.take 10 (.all (.cons 8 (.all (.cons 9 (.all (.cons 11 .done .nil)) (.cons 11 (.all (.cons 9 .done .nil)) .nil))) (.cons 11 (.all (.cons 8 (.all (.cons 9 .done .nil)) .nil)) .nil)))) .nil)) .nil)) .nil)) .nil))) (.cons 6 (.all (.cons 1 (.all (.cons 4 (.all (.cons 5 (.all (.cons 7 (.take 10 (.all (.cons 8 (.all (.cons 9 (.all (.cons 11 .done .nil)) (.cons 11 (.all (.cons 9 .done .nil)) .nil))) (.cons 11 (.all (.cons 8 (.all (.cons 9 .done .nil)) .nil)) .nil)))) .nil)) .nil)) (.cons 5 (.all (.cons 4 (.all (.cons 7 (.take 10 (.all (.cons 8 (.all (.cons 9 (.all (.cons 11 .done .nil)) (.cons 11 (.all (.cons 9 .done .nil)) .nil))) (.cons 11 (.all (.cons 8 (.all (.cons 9 .done .nil)) .nil)) .nil)))) .nil)) .nil)) .nil))) (.cons 4 (.all (.cons 1 (.all (.cons 5 (.all (.cons 7 (.take 10 (.all (.cons 8 (.all (.cons 9 (.all (.cons 11 .done .nil)) (.cons 11 (.all (.cons 9 .done .nil)) .nil))) (.cons 11 (.all (.cons 8 (.all (.cons 9 .done .nil)) .nil)) .nil)))) .nil)) .nil)) .nil)) .nil))) .nil))))))) (by kernel_rfl) (by kernel_rfl) ?_
            simp only [go_sem, push_cast, seval, ↓reduceIte, reduceCtorEq, Nat.zero_add, Nat.add_zero, Nat.zero_le, Nat.succ_ne_zero]
            repeat' apply And.intro
            all_goals first
              | omega
              | (refine ⟨(Lg.hd ts2).pos, ts2.tail, rfl, rfl, hg2.isT h2, ?_⟩
                 rw [hi] at hK
                 generalize e3 : Lg.fn (Lg.hd ts2).pos ts2.tail = r at hK hi ⊢
                 cases r with
                 | error q =>
                   obtain ⟨a, c⟩ := q
                   intro ts' d'
                   simp only [go_sem, push_cast, seval, ↓reduceIte, reduceCtorEq, Nat.zero_add, Nat.add_zero, Nat.zero_le, Nat.succ_ne_zero]
                   refine fin_use [] [1000] ?_
                   simp only [go_sem, push_cast, seval, ↓reduceIte, reduceCtorEq, Nat.zero_add, Nat.add_zero, Nat.zero_le, Nat.succ_ne_zero]
                   intro vs hvs _
                   match vs, hvs with
                   | [v1, v2, v3, v4, v5], _ =>
                   simp only [go_sem, push_cast, seval, ↓reduceIte, reduceCtorEq, Nat.zero_add, Nat.add_zero, Nat.zero_le, Nat.succ_ne_zero]
                   refine ⟨_, _, _, _, _, _, _, rfl, rfl, rfl, _, _, rfl, ?_⟩
                   simp only [rbox, zeroN, List.map_cons, List.map_nil, go_sem, push_cast, seval, ↓reduceIte, reduceCtorEq, Nat.zero_add, Nat.add_zero, Nat.zero_le, Nat.succ_ne_zero]
                   exact ⟨_, .cons (le_node le_nil) (.cons (.rfl _) (.cons (.rfl _) .nil)), hK⟩
                 | ok q =>
                   obtain ⟨x, ts3⟩ := q
                   intro hg3
                   have hl3 := Lg.item_eats _ _ _ hi
                   have hp := hpay _ _ _ hi
                   simp only [if_pos hl3] at hK
                   simp only [go_sem, push_cast, seval, ↓reduceIte, reduceCtorEq, Nat.zero_add, Nat.add_zero, Nat.zero_le, Nat.succ_ne_zero]
                   repeat' apply And.intro
                   all_goals first
                     | omega
                     | (simp only [List.length_append, treeDs_length, List.length_cons, List.length_nil]; done)
                     | (refine ⟨⟨(39, [] ++ [x], ts3), ?_, hg3, ?_, post_bnd hK (fun _ _ h => h) (fun xs ts' e h => ?_)⟩,
                         ⟨rfl, subm_put rfl (subm_put rfl (subm_put rfl (subm_put rfl subm_nix))), subm_put rfl (subm_put ?_ (subm_put rfl (subm_put rfl subm_nix))), ?_⟩, hl3⟩
                        · first | exact .inl rfl | exact .inr rfl
                        · show Lg.sizes ([] ++ [x]) + 3 * ts3.length ≤ 6291456
                          rw [sizes_snoc]; omega
                        · have h2 : outT Kr ([] ++ x :: xs) := h
                          simpa using h2
                        · show _ = some (Box.mk [_, _, _, _, kidsLV 39 ([] ++ [x])] _); rw [kidsLV_snoc]; rfl
                        · show subm _ (kidsAr 39 ([] ++ [x]))
                          refine subm_kids ?_
                          first | rfl | (show some (5, 36, _) = _; rw [set_kids])))
          | cons y acc =>
            simp only [List.length_cons] at hls
            simp only [go_sem, push_cast, seval, ↓reduceIte, reduceCtorEq, Nat.zero_add, Nat.add_zero, Nat.zero_le, Nat.succ_ne_zero]
            refine draw_use (.take 0 (.take 2 (.take 3 (.all (.cons 1 (.all (.cons 4 (.all (.cons 5 (.all (.cons 6 (.all (.cons 7 (.take 10 (.all (.cons 8 (.all (.cons 9 (.all (.cons 11 .done .nil)) (.cons 11 (.all (.cons 9 .done .nil)) .nil))) (.cons 11 (.all (.cons 8 (.all (.cons 9 .done .nil)) .nil)) .nil)))) .nil)) .nil)) (.cons 6 (.all (.cons 5 (.all (.cons 7 (.take 10 (.all (.cons 8 (.all (.cons 9 (.all (.cons 11 .done .nil)) (.cons 11 (.all (.cons 9 .done .nil)) .nil))) (.cons 11 (.all (.cons 8 (.all (.cons 9 .done .nil)) .nil)) .nil)))) .nil)) .nil)) .nil))) (.cons 5 (.all (.cons 4 (.all (.cons 6 (.all (.cons 7 (.take 10 (.all (.cons 8 (.all (.cons 9 (.all (.cons 11 .done .nil)) (.cons 11 (.all (.cons 9 .done .nil)) .nil))) (.cons 11 (.all (.cons 8 (.all (.cons 9 .done .nil)) .nil)) .nil)))) .nil)) .nil)) (.cons 6 (.all (.cons 4 (.all (.cons 7 (.take 10 (.all (.cons 8 (.all (.cons 9 (.all (.cons 11 .done .nil)) (.cons 11 (.all (.cons 9 .done .nil)) .nil))) (.cons 11 (.all (.cons 8 (.all (.cons 9 .done .nil)) .nil)) .nil)))) .nil)) .nil)) .nil))) (.cons 6 (.all (.cons 4 (.all (.cons 5 (.all (.cons 7 (.take 10 (.all (.cons 8 (.all (.cons 9 (.all (.cons 11 .done .nil)) (.cons 11 (.all (.cons 9 .done .nil)) .nil))) (.cons 11 (.all (.cons 8 (.all (.cons 9 .done .nil)) .nil)) .nil)))) .nil)) .nil)) (.cons 5 (.all (.cons 4 (.all (.cons 7 (.take 10 (.all (.cons 8 (.all (.cons 9 (.all (.cons 11 .done .nil)) (.cons 11 (.all (.cons 9 .done .nil)) .nil))) (.cons 11 (.all (.cons 8 (.all (.cons 9 .done .nil)) .nil)) .nil)))) .nil)) .nil)) .nil))) .nil)))) (.cons 4 (.all (.cons 1 (.all (.cons 5 (.all (.cons 6 (.all (.cons 7 (.take 10 (.all (.cons 8 (.all (.cons 9 (.all (.cons 11 .done .nil)) (.cons 11 (.all (.cons 9 .done .nil)) .nil))) (.cons 11 (.all (.cons 8 (.all (.cons 9 .done .nil)) .nil)) .nil)))) .nil)) .nil)) (.cons 6 (.all (.cons 5 (.all (.cons 7 (.take 10 (.all (.cons 8 (.all (.cons 9 (.all (.cons 11 .done .nil)) (.cons 11 (.all (.cons 9 .done .nil)) .nil))) (.cons 11 (.all (.cons 8 (.all (.cons 9 .done .nil)) .nil)) .nil)))) .nil)) .nil)) .nil))) (.cons 6 (.all (.cons 1 (.all (.cons 5 (.all (.cons 7 (.take 10 (.all (.cons 8 (.all (.cons 9 (.all (.cons 11 .done .nil)) (.cons 11 (.all (.cons 9 .done .nil)) .nil))) (.cons 11 (.all (.cons 8 (.all (.cons 9 .done .nil)) .nil)) .nil)))) .nil)) .nil)) .nil)) .nil))) (.cons 6 (.all (.cons 1 (.all (.cons 4 (.all (.cons 5 (.all (.cons 7 (.take 10 (.all (.cons 8 (.all (.cons 9 (.all (.cons 11 .done .nil)) (.cons 11 (.all (.cons 9 .done .nil)) .nil))) (.cons 11 (.all (.cons 8 (.all (.cons 9 .done .nil)) .nil)) .nil)))) .nil)) .nil)) (.cons 5 (.all (.cons 4 (.all (.cons 7 (.take 10 (.all (.cons 8 (.all (.cons 9 (.all (.cons 11 .done .nil)) (.cons 11 (.all (.cons 9 .done .nil)) .nil))) (.cons 11 (.all (.cons 8 (.all (.cons 9 .done .nil)) .nil)) .nil)))) .nil)) .nil)) .nil))) (.cons 4 (.all (.cons 1 (.all (.cons 5 (.all (.cons 7 (.take 10 (.all (.cons 8 (.all (.cons 9 (.all (.cons 11 .done .nil)) (.cons 11 (.all (.cons 9 .done .nil)) .nil))) (.cons 11 (.all (.cons 8 (.all (.cons 9 .done .nil)) .nil)) .nil)))) .nil)) .nil)) .nil)) .nil))) .nil))))))) (by kernel_rfl) (by kernel_rfl) ?_
            simp only [go_sem, push_cast, seval, ↓reduceIte, reduceCtorEq, Nat.zero_add, Nat.add_zero, Nat.zero_le, Nat.succ_ne_zero]
            repeat' apply And.intro
            all_goals first
              | omega
              | (refine ⟨(Lg.hd ts2).pos, ts2.tail, rfl, rfl, hg2.isT h2, ?_⟩
                 rw [hi] at hK
                 generalize e3 : Lg.fn (Lg.hd ts2).pos ts2.tail = r at hK hi ⊢
                 cases r with
                 | error q =>
                   obtain ⟨a, c⟩ := q
                   intro ts' d'
                   simp only [go_sem, push_cast, seval, ↓reduceIte, reduceCtorEq, Nat.zero_add, Nat.add_zero, Nat.zero_le, Nat.succ_ne_zero]
                   refine fin_use [] [1000] ?_
                   simp only [go_sem, push_cast, seval, ↓reduceIte, reduceCtorEq, Nat.zero_add, Nat.add_zero, Nat.zero_le, Nat.succ_ne_zero]
                   intro vs hvs _
                   match vs, hvs with
                   | [v1, v2, v3, v4, v5], _ =>
                   simp only [go_sem, push_cast, seval, ↓reduceIte, reduceCtorEq, Nat.zero_add, Nat.add_zero, Nat.zero_le, Nat.succ_ne_zero]
                   refine ⟨_, _, _, _, _, _, _, rfl, rfl, rfl, _, _, rfl, ?_⟩
                   simp only [rbox, zeroN, List.map_cons, List.map_nil, go_sem, push_cast, seval, ↓reduceIte, reduceCtorEq, Nat.zero_add, Nat.add_zero, Nat.zero_le, Nat.succ_ne_zero]
                   exact ⟨_, .cons (le_node le_nil) (.cons (.rfl _) (.cons (.rfl _) .nil)), hK⟩
                 | ok q =>
                   obtain ⟨x, ts3⟩ := q
                   intro hg3
                   have hl3 := Lg.item_eats _ _ _ hi
                   have hp := hpay _ _ _ hi
                   simp only [if_pos hl3] at hK
                   simp only [go_sem, push_cast, seval, ↓reduceIte, reduceCtorEq, Nat.zero_add, Nat.add_zero, Nat.zero_le, Nat.succ_ne_zero]
                   repeat' apply And.intro
                   all_goals first
                     | omega
                     | (simp only [List.length_append, treeDs_length, List.length_cons, List.length_nil]; done)
                     | (refine ⟨⟨(51, (y :: acc) ++ [x], ts3), ?_, hg3, ?_, post_bnd hK (fun _ _ h => h) (fun xs ts' e h => ?_)⟩,
                         ⟨rfl, subm_put rfl (subm_put rfl (subm_put rfl (subm_put rfl subm_nix))), subm_put rfl (subm_put ?_ (subm_put rfl (subm_put rfl subm_nix))), ?_⟩, hl3⟩
                        · first | exact .inl rfl | exact .inr rfl
                        · show Lg.sizes ((y :: acc) ++ [x]) + 3 * ts3.length ≤ 6291456
                          rw [sizes_snoc]; omega
                        · have h2 : outT Kr ((y :: acc) ++ x :: xs) := h
                          simpa using h2
                        · show _ = some (Box.mk [_, _, _, _, kidsLV 51 ((y :: acc) ++ [x])] _); rw [kidsLV_snoc]; rfl
                        · show subm _ (kidsAr 51 ((y :: acc) ++ [x]))
                          refine subm_kids ?_
                          first | rfl | (show some (5, 36, _) = _; rw [set_kids])))
      · skip
        rcases hd with rfl | rfl
        · cases acc with
          | nil =>
            simp only [go_sem, push_cast, seval, ↓reduceIte, reduceCtorEq, Nat.zero_add, Nat.add_zero, Nat.zero_le, Nat.succ_ne_zero]
            refine ⟨Lg.sType, ts2, 0, rfl, rfl, hg2, ?_⟩
            have hi0 : Lg.item ts2 = Lg.bnd (Lg.must Lg.sType ts2) fun _ ts' => Lg.typ (Lg.hd ts2).pos ts' := by unfold Lg.item; rw [if_neg (isT_false h2)]
            rw [hi0] at hK
            generalize e4 : Lg.must Lg.sType ts2 = r4 at hK hi0 ⊢
            cases r4 with
            | error q =>
              obtain ⟨a, c⟩ := q
              intro ts' d'
              simp only [go_sem, push_cast, seval, ↓reduceIte, reduceCtorEq, Nat.zero_add, Nat.add_zero, Nat.zero_le, Nat.succ_ne_zero]
              refine fin_use [] [1000] ?_
              simp only [go_sem, push_cast, seval, ↓reduceIte, reduceCtorEq, Nat.zero_add, Nat.add_zero, Nat.zero_le, Nat.succ_ne_zero]
              intro vs hvs _
              match vs, hvs with
              | [v1, v2, v3, v4, v5], _ =>
              simp only [go_sem, push_cast, seval, ↓reduceIte, reduceCtorEq, Nat.zero_add, Nat.add_zero, Nat.zero_le, Nat.succ_ne_zero]
              refine ⟨_, _, _, _, _, _, _, rfl, rfl, rfl, _, _, rfl, ?_⟩
              simp only [rbox, zeroN, List.map_cons, List.map_nil, go_sem, push_cast, seval, ↓reduceIte, reduceCtorEq, Nat.zero_add, Nat.add_zero, Nat.zero_le, Nat.succ_ne_zero]
              exact ⟨_, .cons (le_node le_nil) (.cons (.rfl _) (.cons (.rfl _) .nil)), hK⟩
            | ok q =>
            obtain ⟨x0, ts4⟩ := q
            intro hg4
            have hi : Lg.item ts2 = Lg.typ (Lg.hd ts2).pos ts4 := hi0
            simp only [go_sem, push_cast, seval, ↓reduceIte, reduceCtorEq, Nat.zero_add, Nat.add_zero, Nat.zero_le, Nat.succ_ne_zero]
            refine draw_use (.take 0 (.take 2 (.take 3 (.all (.cons 1 (.all (.cons 4 (.all (.cons 5 (.all (.cons 6 (.all (.cons 7 (.take 10 (.all (.cons 8 (.all (.cons 9 (.all (.cons 11 .done .nil)) (.cons 11 (.all (.cons 9 .done .nil)) .nil))) (.cons 11 (.all (.cons 8 (.all (.cons 9 .done .nil)) .nil)) .nil)))) .nil)) .nil)) (.cons 6 (.all (.cons 5 (.all (.cons 7 (.take 10 (.all (.cons 8 (.all (.cons 9 (.all (.cons 11 .done .nil)) (.cons 11 (.all (.cons 9 .done .nil)) .nil))) (.cons 11 (.all (.cons 8 (.all (.cons 9 .done .nil)) .nil)) .nil)))) .nil)) .nil)) .nil))) (.cons 5 (.all (.cons 4 (.all (.cons 6 (.all (.cons 7 (.take 10 (.all (.cons 8 (.all (.cons 9 (.all (.cons 11 .done .nil)) (.cons 11 (.all (.cons 9 .done .nil)) .nil))) (.cons 11 (.all (.cons 8 (.all (.cons 9 .done .nil)) .nil)) .nil)))) .nil)) .nil)) (.cons 6 (.all (.cons 4 (.all (.cons 7 (.take 10 (.all (.cons 8 (.all (.cons 9 (.all (.cons 11 .done .nil)) (.cons 11 (.all (.cons 9 .done .nil)) .nil))) (.cons 11 (.all (.cons 8 (.all (.cons 9 .done .nil)) .nil)) .nil)))) .nil)) .nil)) .nil))) (.cons 6 (.all (.cons 4 (.all (.cons 5 (.all (.cons 7 (.take 10 (.all (.cons 8 (.all (.cons 9 (.all (.cons 11 .done .nil)) (.cons 11 (.all (.cons 9 .done .nil)) .nil))) (.cons 11 (.all (.cons 8 (.all (.cons 9 .done .nil)) .nil)) .nil)))) .nil)) .nil)) (.cons 5 (.all (.cons 4 (.all (.cons 7 (.take 10 (.all (.cons 8 (.all (.cons 9 (.all (.cons 11 .done .nil)) (.cons 11 (.all (.cons 9 .done .nil)) .nil))) (.cons 11 (.all (.cons 8 (.all (.cons 9 .done .nil)) .nil)) .nil)))) .nil)) .nil)) .nil))) .nil)))) (.cons 4 (.all (.cons 1 (.all (.cons 5 (.all (.cons 6 (.all (.cons 7 (.take 10 (.all (.cons 8 (.all (.cons 9 (.all (.cons 11 .done .nil)) (.cons 11 (.all (.cons 9 .done .nil)) .nil))) (.cons 11 (.all (.cons 8 (.all (.cons 9 .done .nil)) .nil)) .nil)))) .nil)) .nil)) (.cons 6 (.all (.cons 5 (.all (.cons 7 (.take 10 (.all (.cons 8 (.all (.cons 9 (.all (.cons 11 .done .nil)) (.cons 11 (.all (.cons 9 .done .nil)) .nil))) (.cons 11 (.all (.cons 8 (.all (.cons 9 .done .nil)) .nil)) .nil)))) .nil)) .nil)) .nil))) (.cons 6 (.all (.cons 1 (.all (.cons 5 (.all (.cons 7 (.take 10 (.all (.cons 8 (.all (.cons 9 (.all (.cons 11 .done .nil)) (.cons 11 (.all (.cons 9 .done .nil)) .nil))) (.cons 11 (.all (.cons 8 (.all (.cons 9 .done .nil)) .nil)) .nil)))) .nil)) .nil)) .nil)) .nil))) (.cons 6 (.all (.cons 1 (.all (.cons 4 (.all (.cons 5 (.all (.cons 7 (.take 10 (.all (.cons 8 (.all (.cons 9 (.all (.cons 11 .done .nil)) (.cons 11 (.all (.cons 9 .done .nil)) .nil))) (.cons 11 (.all (.cons 8 (.all (.cons 9 .done .nil)) .nil)) .nil)))) .nil)) .nil)) (.cons 5 (.all (.cons 4 (.all (.cons 7 (.take 10 (.all (.cons 8 (.all (.cons 9 (.all (.cons 11 .done .nil)) (.cons 11 (.all (.cons 9 .done .nil)) .nil))) (.cons 11 (.all (.cons 8 (.all (.cons 9 .done .nil)) .nil)) .nil)))) .nil)) .nil)) .nil))) (.cons 4 (.all (.cons 1 (.all (.cons 5 (.all (.cons 7 (.take 10 (.all (.cons 8 (.all (.cons 9 (.all (.cons 11 .done .nil)) (.cons 11 (.all (.cons 9 .done .nil)) .nil))) (.cons 11 (.all (.cons 8 (.all (.cons 9 .done .nil)) .nil)) .nil)))) .nil)) .nil)) .nil)) .nil))) .nil))))))) (by kernel_rfl) (by kernel_rfl) ?_
            simp only [go_sem, push_cast, seval, ↓reduceIte, reduceCtorEq, Nat.zero_add, Nat.add_zero, Nat.zero_le, Nat.succ_ne_zero]
            repeat' apply And.intro
            all_goals first
              | omega
              | (refine ⟨(Lg.hd ts2).pos, ts4, 0, rfl, rfl, hg4, ?_⟩
                 rw [bnd_okk] at hK
                 generalize e3 : Lg.typ (Lg.hd ts2).pos ts4 = r at hK hi ⊢
                 cases r with
                 | error q =>
                   obtain ⟨a, c⟩ := q
                   intro ts' d'
                   simp only [go_sem, push_cast, seval, ↓reduceIte, reduceCtorEq, Nat.zero_add, Nat.add_zero, Nat.zero_le, Nat.succ_ne_zero]
                   refine fin_use [] [1000] ?_
                   simp only [go_sem, push_cast, seval, ↓reduceIte, reduceCtorEq, Nat.zero_add, Nat.add_zero, Nat.zero_le, Nat.succ_ne_zero]
                   intro vs hvs _
                   match vs, hvs with
                   | [v1, v2, v3, v4, v5], _ =>
                   simp only [go_sem, push_cast, seval, ↓reduceIte, reduceCtorEq, Nat.zero_add, Nat.add_zero, Nat.zero_le, Nat.succ_ne_zero]
                   refine ⟨_, _, _, _, _, _, _, rfl, rfl, rfl, _, _, rfl, ?_⟩
                   simp only [rbox, zeroN, List.map_cons, List.map_nil, go_sem, push_cast, seval, ↓reduceIte, reduceCtorEq, Nat.zero_add, Nat.add_zero, Nat.zero_le, Nat.succ_ne_zero]
                   exact ⟨_, .cons (le_node le_nil) (.cons (.rfl _) (.cons (.rfl _) .nil)), hK⟩
                 | ok q =>
                   obtain ⟨x, ts3⟩ := q
                   intro hg3
                   have hl3 := Lg.item_eats _ _ _ hi
                   have hp := hpay _ _ _ hi
                   simp only [if_pos hl3] at hK
                   simp only [go_sem, push_cast, seval, ↓reduceIte, reduceCtorEq, Nat.zero_add, Nat.add_zero, Nat.zero_le, Nat.succ_ne_zero]
                   repeat' apply And.intro
                   all_goals first
                     | omega
                     | (simp only [List.length_append, treeDs_length, List.length_cons, List.length_nil]; done)
                     | (refine ⟨⟨(51, [] ++ [x], ts3), ?_, hg3, ?_, post_bnd hK (fun _ _ h => h) (fun xs ts' e h => ?_)⟩,
                         ⟨rfl, subm_put rfl (subm_put rfl (subm_put rfl (subm_put rfl subm_nix))), subm_put rfl (subm_put ?_ (subm_put rfl (subm_put rfl subm_nix))), ?_⟩, hl3⟩
                        · first | exact .inl rfl | exact .inr rfl
                        · show Lg.sizes ([] ++ [x]) + 3 * ts3.length ≤ 6291456
                          rw [sizes_snoc]; omega
                        · have h2 : outT Kr ([] ++ x :: xs) := h
                          simpa using h2
                        · show _ = some (Box.mk [_, _, _, _, kidsLV 51 ([] ++ [x])] _); rw [kidsLV_snoc]; rfl
                        · show subm _ (kidsAr 51 ([] ++ [x]))
                          refine subm_kids ?_
                          first | rfl | (show some (5, 36, _) = _; rw [set_kids])))
          | cons y acc =>
            simp only [List.length_cons] at hls
            simp only [go_sem, push_cast, seval, ↓reduceIte, reduceCtorEq, Nat.zero_add, Nat.add_zero, Nat.zero_le, Nat.succ_ne_zero]
            refine ⟨Lg.sType, ts2, 0, rfl, rfl, hg2, ?_⟩
            have hi0 : Lg.item ts2 = Lg.bnd (Lg.must Lg.sType ts2) fun _ ts' => Lg.typ (Lg.hd ts2).pos ts' := by unfold Lg.item; rw [if_neg (isT_false h2)]
            rw [hi0] at hK
            generalize e4 : Lg.must Lg.sType ts2 = r4 at hK hi0 ⊢
            cases r4 with
            | error q =>
              obtain ⟨a, c⟩ := q
              intro ts' d'
              simp only [go_sem, push_cast, seval, ↓reduceIte, reduceCtorEq, Nat.zero_add, Nat.add_zero, Nat.zero_le, Nat.succ_ne_zero]
              refine fin_use [] [1000] ?_
              simp only [go_sem, push_cast, seval, ↓reduceIte, reduceCtorEq, Nat.zero_add, Nat.add_zero, Nat.zero_le, Nat.succ_ne_zero]
              intro vs hvs _
              match vs, hvs with
              | [v1, v2, v3, v4, v5], _ =>
              simp only [go_sem, push_cast, seval, ↓reduceIte, reduceCtorEq, Nat.zero_add, Nat.add_zero, Nat.zero_le, Nat.succ_ne_zero]
              refine ⟨_, _, _, _, _, _, _, rfl, rfl, rfl, _, _, rfl, ?_⟩
              simp only [rbox, zeroN, List.map_cons, List.map_nil, go_sem, push_cast, seval, ↓reduceIte, reduceCtorEq, Nat.zero_add, Nat.add_zero, Nat.zero_le, Nat.succ_ne_zero]
              exact ⟨_, .cons (le_node le_nil) (.cons (.rfl _) (.cons (.rfl _) .nil)), hK⟩
            | ok q =>
            obtain ⟨x0, ts4⟩ := q
            intro hg4
            have hi : Lg.item ts2 = Lg.typ (Lg.hd ts2).pos ts4 := hi0
            simp only [go_sem, push_cast, seval, ↓reduceIte, reduceCtorEq, Nat.zero_add, Nat.add_zero, Nat.zero_le, Nat.succ_ne_zero]
            refine draw_use (.take 0 (.take 2 (.take 3 (.all (.cons 1 (.all (.cons 4 (.all (.cons 5 (.all (.cons 6 (.all (.cons 7 (.take 10 (.all (.cons 8 (.all (.cons 9 (.all (.cons 11 .done .nil)) (.cons 11 (.all (.cons 9 .done .nil)) .nil))) (.cons 11 (.all (.cons 8 (.all (.cons 9 .done .nil)) .nil)) .nil)))) .nil)) .nil)) (.cons 6 (.all (.cons 5 (.all (.cons 7 (.take 10 (.all (.cons 8 (.all (.cons 9 (.all (.cons 11 .done .nil)) (.cons 11 (.all (.cons 9 .done .nil)) .nil))) (.cons 11 (.all (.cons 8 (.all (.cons 9 .done .nil)) .nil)) .nil)))) .nil)) .nil)) .nil))) (.cons 5 (.all (.cons 4 (.all (.cons 6 (.all (.cons 7 (.take 10 (.all (.cons 8 (.all (.cons 9 (.all (.cons 11 .done .nil)) (.cons 11 (.all (.cons 9 .done .nil)) .nil))) (.cons 11 (.all (.cons 8 (.all (.cons 9 .done .nil)) .nil)) .nil)))) .nil)) .nil)) (.cons 6 (.all (.cons 4 (.all (.cons 7 (.take 10 (.all (.cons 8 (.all (.cons 9 (.all (.cons 11 .done .nil)) (.cons 11 (.all (.cons 9 .done .nil)) .nil))) (.cons 11 (.all (.cons 8 (.all (.cons 9 .done .nil)) .nil)) .nil)))) .nil)) .nil)) .nil))) (.cons 6 (.all (.cons 4 (.all (.cons 5 (.all (.cons 7 (.take 10 (.all (.cons 8 (.all (.cons 9 (.all (.cons 11 .done .nil)) (.cons 11 (.all (.cons 9 .done .nil)) .nil))) (.cons 11 (.all (.cons 8 (.all (.cons 9 .done .nil)) .nil)) .nil)))) .nil)) .nil)) (.cons 5 (.all (.cons 4 (.all (.cons 7 (.take 10 (.all (.cons 8 (.all (.cons 9 (.all (.cons 11 .done .nil)) (.cons 11 (.all (.cons 9 .done .nil)) .nil))) (.cons 11 (.all (.cons 8 (.all (.cons 9 .done .nil)) .nil)) .nil)))) .nil)) .nil)) .nil))) .nil)))) (.cons 4 (.all (.cons 1 (.all (.cons 5 (.all (.cons 6 (.all (.cons 7 (.take 10 (.all (.cons 8 (.all (.cons 9 (.all (.cons 11 .done .nil)) (.cons 11 (.all (.cons 9 .done .nil)) .nil))) (.cons 11 (.all (.cons 8 (.all (.cons 9 .done .nil)) .nil)) .nil)))) .nil)) .nil)) (.cons 6 (.all (.cons 5 (.all (.cons 7 (.take 10 (.all (.cons 8 (.all (.cons 9 (.all (.cons 11 .done .nil)) (.cons 11 (.all (.cons 9 .done .nil)) .nil))) (.cons 11 (.all (.cons 8 (.all (.cons 9 .done .nil)) .nil)) .nil)))) .nil)) .nil)) .nil))) (.cons 6 (.all (.cons 1 (.all (.cons 5 (.all (.cons 7 (.take 10 (.all (.cons 8 (.all (.cons 9 (.all (.cons 11 .done .nil)) (.cons 11 (.all (.cons 9 .done .nil)) .nil))) (.cons 11 (.all (.cons 8 (.all (.cons 9 .done .nil)) .nil)) .nil)))) .nil)) .nil)) .nil)) .nil))) (.cons 6 (.all (.cons 1 (.all (.cons 4 (.all (.cons 5 (.all (.cons 7 (.take 10 (.all (.cons 8 (.all (.cons 9 (.all (.cons 11 .done .nil)) (.cons 11 (.all (.cons 9 .done .nil)) .nil))) (.cons 11 (.all (.cons 8 (.all (.cons 9 .done .nil)) .nil)) .nil)))) .nil)) .nil)) (.cons 5 (.all (.cons 4 (.all (.cons 7 (.take 10 (.all (.cons 8 (.all (.cons 9 (.all (.cons 11 .done .nil)) (.cons 11 (.all (.cons 9 .done .nil)) .nil))) (.cons 11 (.all (.cons 8 (.all (.cons 9 .done .nil)) .nil)) .nil)))) .nil)) .nil)) .nil))) (.cons 4 (.all (.cons 1 (.all (.cons 5 (.all (.cons 7 (.take 10 (.all (.cons 8 (.all (.cons 9 (.all (.cons 11 .done .nil)) (.cons 11 (.all (.cons 9 .done .nil)) .nil))) (.cons 11 (.all (.cons 8 (.all (.cons 9 .done .nil)) .nil)) .nil)))) .nil)) .nil)) .nil)) .nil))) .nil))))))) (by kernel_rfl) (by kernel_rfl) ?_
            simp only [go_sem, push_cast, seval, ↓reduceIte, reduceCtorEq, Nat.zero_add, Nat.add_zero, Nat.zero_le, Nat.succ_ne_zero]
            repeat' apply And.intro
            all_goals first
              | omega
              | (refine ⟨(Lg.hd ts2).pos, ts4, 0, rfl, rfl, hg4, ?_⟩
                 rw [bnd_okk] at hK
                 generalize e3 : Lg.typ (Lg.hd ts2).pos ts4 = r at hK hi ⊢
                 cases r with
                 | error q =>
                   obtain ⟨a, c⟩ := q
                   intro ts' d'
                   simp only [go_sem, push_cast, seval, ↓reduceIte, reduceCtorEq, Nat.zero_add, Nat.add_zero, Nat.zero_le, Nat.succ_ne_zero]
                   refine fin_use [] [1000] ?_
                   simp only [go_sem, push_cast, seval, ↓reduceIte, reduceCtorEq, Nat.zero_add, Nat.add_zero, Nat.zero_le, Nat.succ_ne_zero]
                   intro vs hvs _
                   match vs, hvs with
                   | [v1, v2, v3, v4, v5], _ =>
                   simp only [go_sem, push_cast, seval, ↓reduceIte, reduceCtorEq, Nat.zero_add, Nat.add_zero, Nat.zero_le, Nat.succ_ne_zero]
                   refine ⟨_, _, _, _, _, _, _, rfl, rfl, rfl, _, _, rfl, ?_⟩
                   simp only [rbox, zeroN, List.map_cons, List.map_nil, go_sem, push_cast, seval, ↓reduceIte, reduceCtorEq, Nat.zero_add, Nat.add_zero, Nat.zero_le, Nat.succ_ne_zero]
                   exact ⟨_, .cons (le_node le_nil) (.cons (.rfl _) (.cons (.rfl _) .nil)), hK⟩
                 | ok q =>
                   obtain ⟨x, ts3⟩ := q
                   intro hg3
                   have hl3 := Lg.item_eats _ _ _ hi
                   have hp := hpay _ _ _ hi
                   simp only [if_pos hl3] at hK
                   simp only [go_sem, push_cast, seval, ↓reduceIte, reduceCtorEq, Nat.zero_add, Nat.add_zero, Nat.zero_le, Nat.succ_ne_zero]
                   repeat' apply And.intro
                   all_goals first
                     | omega
                     | (simp only [List.length_append, treeDs_length, List.length_cons, List.length_nil]; done)
                     | (refine ⟨⟨(39, (y :: acc) ++ [x], ts3), ?_, hg3, ?_, post_bnd hK (fun _ _ h => h) (fun xs ts' e h => ?_)⟩,
                         ⟨rfl, subm_put rfl (subm_put rfl (subm_put rfl (subm_put rfl subm_nix))), subm_put rfl (subm_put ?_ (subm_put rfl (subm_put rfl subm_nix))), ?_⟩, hl3⟩
                        · first | exact .inl rfl | exact .inr rfl
                        · show Lg.sizes ((y :: acc) ++ [x]) + 3 * ts3.length ≤ 6291456
                          rw [sizes_snoc]; omega
                        · have h2 : outT Kr ((y :: acc) ++ x :: xs) := h
                          simpa using h2
                        · show _ = some (Box.mk [_, _, _, _, kidsLV 39 ((y :: acc) ++ [x])] _); rw [kidsLV_snoc]; rfl
                        · show subm _ (kidsAr 39 ((y :: acc) ++ [x]))
                          refine subm_kids ?_
                          first | rfl | (show some (5, 36, _) = _; rw [set_kids])))
        · cases acc with
          | nil =>
            simp only [go_sem, push_cast, seval, ↓reduceIte, reduceCtorEq, Nat.zero_add, Nat.add_zero, Nat.zero_le, Nat.succ_ne_zero]
            refine ⟨Lg.sType, ts2, 0, rfl, rfl, hg2, ?_⟩
            have hi0 : Lg.item ts2 = Lg.bnd (Lg.must Lg.sType ts2) fun _ ts' => Lg.typ (Lg.hd ts2).pos ts' := by unfold Lg.item; rw [if_neg (isT_false h2)]
            rw [hi0] at hK
            generalize e4 : Lg.must Lg.sType ts2 = r4 at hK hi0 ⊢
            cases r4 with
            | error q =>
              obtain ⟨a, c⟩ := q
              intro ts' d'
              simp only [go_sem, push_cast, seval, ↓reduceIte, reduceCtorEq, Nat.zero_add, Nat.add_zero, Nat.zero_le, Nat.succ_ne_zero]
              refine fin_use [] [1000] ?_
              simp only [go_sem, push_cast, seval, ↓reduceIte, reduceCtorEq, Nat.zero_add, Nat.add_zero, Nat.zero_le, Nat.succ_ne_zero]
              intro vs hvs _
              match vs, hvs with
              | [v1, v2, v3, v4, v5], _ =>
              simp only [go_sem, push_cast, seval, ↓reduceIte, reduceCtorEq, Nat.zero_add, Nat.add_zero, Nat.zero_le, Nat.succ_ne_zero]
              refine ⟨_, _, _, _, _, _, _, rfl, rfl, rfl, _, _, rfl, ?_⟩
              simp only [rbox, zeroN, List.map_cons, List.map_nil, go_sem, push_cast, seval, ↓reduceIte, reduceCtorEq, Nat.zero_add, Nat.add_zero, Nat.zero_le, Nat.succ_ne_zero]
              exact ⟨_, .cons (le_node le_nil) (.cons (.rfl _) (.cons (.rfl _) .nil)), hK⟩
            | ok q =>
            obtain ⟨x0, ts4⟩ := q
            intro hg4
            have hi : Lg.item ts2 = Lg.typ (Lg.hd ts2).pos ts4 := hi0
            simp only [go_sem, push_cast, seval, ↓reduceIte, reduceCtorEq, Nat.zero_add, Nat.add_zero, Nat.zero_le, Nat.succ_ne_zero]
            refine draw_use (.take 0 (.take 2 (.take 3 (.all (.cons 1 (.all (.cons 4 (.all (.cons 5 (.all (.cons 6 (.all (.cons 7 (.take 10 (.all (.cons 8 (.all (.cons 9 (.all (.cons 11 .done .nil)) (.cons 11 (.all (.cons 9 .done .nil)) .nil))) (.cons 11 (.all (.cons 8 (.all (.cons 9 .done .nil)) .nil)) .nil)))) .nil)) .nil)) (.cons 6 (.all (.cons 5 (.all (.cons 7 (.take 10 (.all (.cons 8 (.all (.cons 9 (.all (.cons 11 .done .nil)) (.cons 11 (.all (.cons 9 .done .nil)) .nil))) (.cons 11 (.all (.cons 8 (.all (.cons 9 .done .nil)) .nil)) .nil)))) .nil)) .nil)) .nil))) (.cons 5 (.all (.cons 4 (.all (.cons 6 (.all (.cons 7 (.take 10 (.all (.cons 8 (.all (.cons 9 (.all (.cons 11 .done .nil)) (.cons 11 (.all (.cons 9 .done .nil)) .nil))) (.cons 11 (.all (.cons 8 (.all (.cons 9 .done .nil)) .nil)) .nil)))) .nil)) .nil)) (.cons 6 (.all (.cons 4 (.all (.cons 7 (.take 10 (.all (.cons 8 (.all (.cons 9 (.all (.cons 11 .done .nil)) (.cons 11 (.all (.cons 9 .done .nil)) .nil))) (.cons 11 (.all (.cons 8 (.all (.cons 9 .done .nil)) .nil)) .nil)))) .nil)) .nil)) .nil))) (.cons 6 (.all (.cons 4 (.all (.cons 5 (.all (.cons 7 (.take 10 (.all (.cons 8 (.all (.cons 9 (.all (.cons 11 .done .nil)) (.cons 11 (.all (.cons 9 .done .nil)) .nil))) (.cons 11 (.all (.cons 8 (.all (.cons 9 .done .nil)) .nil)) .nil)))) .nil)) .nil)) (.cons 5 (.all (.cons 4 (.all (.cons 7 (.take 10 (.all (.cons 8 (.all (.cons 9 (.all (.cons 11 .done .nil)) (.cons 11 (.all (.cons 9 .done .nil)) .nil))) (.cons 11 (.all (.cons 8 (.all (.cons 9 .done .nil)) .nil)) .nil)))) .nil)) .nil)) .nil))) .nil)))) (.cons 4 (.all (.cons 1 (.all (.cons 5 (.all (.cons 6 (.all (.cons 7 (.take 10 (.all (.cons 8 (.all (.cons 9 (.all (.cons 11 .done .nil)) (.cons 11 (.all (.cons 9 .done .nil)) .nil))) (.cons 11 (.all (.cons 8 (.all (.cons 9 .done .nil)) .nil)) .nil)))) .nil)) .nil)) (.cons 6 (.all (.cons 5 (.all (.cons 7 (.take 10 (.all (.cons 8 (.all (.cons 9 (.all (.cons 11 .done .nil)) (.cons 11 (.all (.cons 9 .done .nil)) .nil))) (.cons 11 (.all (.cons 8 (.all (.cons 9 .done .nil)) .nil)) .nil)))) .nil)) .nil)) .nil))) (.cons 6 (.all (.cons 1 (.all (.cons 5 (.all (.cons 7 (.take 10 (.all (.cons 8 (.all (.cons 9 (.all (.cons 11 .done .nil)) (.cons 11 (.all (.cons 9 .done .nil)) .nil))) (.cons 11 (.all (.cons 8 (.all (.cons 9 .done .nil)) .nil)) .nil)))) .nil)) .nil)) .nil)) .nil))) (.cons 6 (.all (.cons 1 (.all (.cons 4 (.all (.cons 5 (.all (.cons 7 (.take 10 (.all (.cons 8 (.all (.cons 9 (.all (.cons 11 .done .nil)) (.cons 11 (.all (.cons 9 .done .nil)) .nil))) (.cons 11 (.all (.cons 8 (.all (.cons 9 .done .nil)) .nil)) .nil)))) .nil)) .nil)) (.cons 5 (.all (.cons 4 (.all (.cons 7 (.take 10 (.all (.cons 8 (.all (.cons 9 (.all (.cons 11 .done .nil)) (.cons 11 (.all (.cons 9 .done .nil)) .nil))) (.cons 11 (.all (.cons 8 (.all (.cons 9 .done .nil)) .nil)) .nil)))) .nil)) .nil)) .nil))) (.cons 4 (.all (.cons 1 (.all (.cons 5 (.all (.cons 7 (.take 10 (.all (.cons 8 (.all (.cons 9 (.all (.cons 11 .done .nil)) (.cons 11 (.all (.cons 9 .done .nil)) .nil))) (.cons 11 (.all (.cons 8 (.all (.cons 9 .done .nil)) .nil)) .nil)))) .nil)) .nil)) .nil)) .nil))) .nil))))))) (by kernel_rfl) (by kernel_rfl) ?_
            simp only [go_sem, push_cast, seval, ↓reduceIte, reduceCtorEq, Nat.zero_add, Nat.add_zero, Nat.zero_le, Nat.succ_ne_zero]
            repeat' apply And.intro
            all_goals first
              | omega
              | (refine ⟨(Lg.hd ts2).pos, ts4, 0, rfl, rfl, hg4, ?_⟩
                 rw [bnd_okk] at hK
                 generalize e3 : Lg.typ (Lg.hd ts2).pos ts4 = r at hK hi ⊢
                 cases r with
                 | error q =>
                   obtain ⟨a, c⟩ := q
                   intro ts' d'
                   simp only [go_sem, push_cast, seval, ↓reduceIte, reduceCtorEq, Nat.zero_add, Nat.add_zero, Nat.zero_le, Nat.succ_ne_zero]
                   refine fin_use [] [1000] ?_
                   simp only [go_sem, push_cast, seval, ↓reduceIte, reduceCtorEq, Nat.zero_add, Nat.add_zero, Nat.zero_le, Nat.succ_ne_zero]
                   intro vs hvs _
                   match vs, hvs with
                   | [v1, v2, v3, v4, v5], _ =>
                   simp only [go_sem, push_cast, seval, ↓reduceIte, reduceCtorEq, Nat.zero_add, Nat.add_zero, Nat.zero_le, Nat.succ_ne_zero]
                   refine ⟨_, _, _, _, _, _, _, rfl, rfl, rfl, _, _, rfl, ?_⟩
                   simp only [rbox, zeroN, List.map_cons, List.map_nil, go_sem, push_cast, seval, ↓reduceIte, reduceCtorEq, Nat.zero_add, Nat.add_zero, Nat.zero_le, Nat.succ_ne_zero]
                   exact ⟨_, .cons (le_node le_nil) (.cons (.rfl _) (.cons (.rfl _) .nil)), hK⟩
                 | ok q =>
                   obtain ⟨x, ts3⟩ := q
                   intro hg3
                   have hl3 := Lg.item_eats _ _ _ hi
                   have hp := hpay _ _ _ hi
                   simp only [if_pos hl3] at hK
                   simp only [go_sem, push_cast, seval, ↓reduceIte, reduceCtorEq, Nat.zero_add, Nat.add_zero, Nat.zero_le, Nat.succ_ne_zero]
                   repeat' apply And.intro
                   all_goals first
                     | omega
                     | (simp only [List.length_append, treeDs_length, List.length_cons, List.length_nil]; done)
                     | (refine ⟨⟨(51, [] ++ [x], ts3), ?_, hg3, ?_, post_bnd hK (fun _ _ h => h) (fun xs ts' e h => ?_)⟩,
                         ⟨rfl, subm_put rfl (subm_put rfl (subm_put rfl (subm_put rfl subm_nix))), subm_put rfl (subm_put ?_ (subm_put rfl (subm_put rfl subm_nix))), ?_⟩, hl3⟩
                        · first | exact .inl rfl | exact .inr rfl
                        · show Lg.sizes ([] ++ [x]) + 3 * ts3.length ≤ 6291456
                          rw [sizes_snoc]; omega
                        · have h2 : outT Kr ([] ++ x :: xs) := h
                          simpa using h2
                        · show _ = some (Box.mk [_, _, _, _, kidsLV 51 ([] ++ [x])] _); rw [kidsLV_snoc]; rfl
                        · show subm _ (kidsAr 51 ([] ++ [x]))
                          refine subm_kids ?_
                          first | rfl | (show some (5, 36, _) = _; rw [set_kids])))
          | cons y acc =>
            simp only [List.length_cons] at hls
            simp only [go_sem, push_cast, seval, ↓reduceIte, reduceCtorEq, Nat.zero_add, Nat.add_zero, Nat.zero_le, Nat.succ_ne_zero]
            refine ⟨Lg.sType, ts2, 0, rfl, rfl, hg2, ?_⟩
            have hi0 : Lg.item ts2 = Lg.bnd (Lg.must Lg.sType ts2) fun _ ts' => Lg.typ (Lg.hd ts2).pos ts' := by unfold Lg.item; rw [if_neg (isT_false h2)]
            rw [hi0] at hK
            generalize e4 : Lg.must Lg.sType ts2 = r4 at hK hi0 ⊢
            cases r4 with
            | error q =>
              obtain ⟨a, c⟩ := q
              intro ts' d'
              simp only [go_sem, push_cast, seval, ↓reduceIte, reduceCtorEq, Nat.zero_add, Nat.add_zero, Nat.zero_le, Nat.succ_ne_zero]
              refine fin_use [] [1000] ?_
              simp only [go_sem, push_cast, seval, ↓reduceIte, reduceCtorEq, Nat.zero_add, Nat.add_zero, Nat.zero_le, Nat.succ_ne_zero]
              intro vs hvs _
              match vs, hvs with
              | [v1, v2, v3, v4, v5], _ =>
              simp only [go_sem, push_cast, seval, ↓reduceIte, reduceCtorEq, Nat.zero_add, Nat.add_zero, Nat.zero_le, Nat.succ_ne_zero]
              refine ⟨_, _, _, _, _, _, _, rfl, rfl, rfl, _, _, rfl, ?_⟩
              simp only [rbox, zeroN, List.map_cons, List.map_nil, go_sem, push_cast, seval, ↓reduceIte, reduceCtorEq, Nat.zero_add, Nat.add_zero, Nat.zero_le, Nat.succ_ne_zero]
              exact ⟨_, .cons (le_node le_nil) (.cons (.rfl _) (.cons (.rfl _) .nil)), hK⟩
            | ok q =>
            obtain ⟨x0, ts4⟩ := q
            intro hg4
            have hi : Lg.item ts2 = Lg.typ (Lg.hd ts2).pos ts4 := hi0
            simp only [go_sem, push_cast, seval, ↓reduceIte, reduceCtorEq, Nat.zero_add, Nat.add_zero, Nat.zero_le, Nat.succ_ne_zero]
            refine draw_use (.take 0 (.take 2 (.take 3 (.all (.cons 1 (.all (.cons 4 (.all (.cons 5 (.all (.cons 6 (.all (.cons 7 (.take 10 (.all (.cons 8 (.all (.cons 9 (.all (.cons 11 .done .nil)) (.cons 11 (.all (.cons 9 .done .nil)) .nil))) (.cons 11 (.all (.cons 8 (.all (.cons 9 .done .nil)) .nil)) .nil)))) .nil)) .nil)) (.cons 6 (.all (.cons 5 (.all (.cons 7 (.take 10 (.all (.cons 8 (.all (.cons 9 (.all (.cons 11 .done .nil)) (.cons 11 (.all (.cons 9 .done .nil)) .nil))) (.cons 11 (.all (.cons 8 (.all (.cons 9 .done .nil)) .nil)) .nil)))) .nil)) .nil)) .nil))) (.cons 5 (.all (.cons 4 (.all (.cons 6 (.all (.cons 7 (.take 10 (.all (.cons 8 (.all (.cons 9 (.all (.cons 11 .done .nil)) (.cons 11 (.all (.cons 9 .done .nil)) .nil))) (.cons 11 (.all (.cons 8 (.all (.cons 9 .done .nil)) .nil)) .nil)))) .nil)) .nil)) (.cons 6 (.all (.cons 4 (.all (.cons 7 (.take 10 (.all (.cons 8 (.all (.cons 9 (.all (.cons 11 .done .nil)) (.cons 11 (.all (.cons 9 .done .nil)) .nil))) (.cons 11 (.all (.cons 8 (.all (.cons 9 .done .nil)) .nil)) .nil)))) .nil)) .nil)) .nil))) (.cons 6 (.all (.cons 4 (.all (.cons 5 (.all (.cons 7 (.take 10 (.all (.cons 8 (.all (.cons 9 (.all (.cons 11 .done .nil)) (.cons 11 (.all (.cons 9 .done .nil)) .nil))) (.cons 11 (.all (.cons 8 (.all (.cons 9 .done .nil)) .nil)) .nil)))) .nil)) .nil)) (.cons 5 (.all (.cons 4 (.all (.cons 7 (.take 10 (.all (.cons 8 (.all (.cons 9 (.all (.cons 11 .done .nil)) (.cons 11 (.all (.cons 9 .done .nil)) .nil))) (.cons 11 (.all (.cons 8 (.all (.cons 9 .done .nil)) .nil)) .nil)))) .nil)) .nil)) .nil))) .nil)))) (.cons 4 (.all (.cons 1 (.all (.cons 5 (.all (.cons 6 (.all (.cons 7 (.take 10 (.all (.cons 8 (.all (.cons 9 (.all (.cons 11 .done .nil)) (.cons 11 (.all (.cons 9 .done .nil)) .nil))) (.cons 11 (.all (.cons 8 (.all (.cons 9 .done .nil)) .nil)) .nil)))) .nil)) .nil)) (.cons 6 (.all (.cons 5 (.all (.cons 7 (.take 10 (.all (.cons 8 (.all (.cons 9 (.all (.cons 11 .done .nil)) (.cons 11 (.all (.cons 9 .done .nil)) .nil))) (.cons 11 (.all (.cons 8 (.all (.cons 9 .done .nil)) .nil)) .nil)))) .nil)) .nil)) .nil))) (.cons 6 (.all (.cons 1 (.all (.cons 5 (.all (.cons 7 (.take 10 (.all (.cons 8 (.all (.cons 9 (.all (.cons 11 .done .nil)) (.cons 11 (.all (.cons 9 .done .nil)) .nil))) (.cons 11 (.all (.cons 8 (.all (.cons 9 .done .nil)) .nil)) .nil)))) .nil)) .nil)) .nil)) .nil))) (.cons 6 (.all (.cons 1 (.all (.cons 4 (.all (.cons 5 (.all (.cons 7 (.take 10 (.all (.cons 8 (.all (.cons 9 (.all (.cons 11 .done .nil)) (.cons 11 (.all (.cons 9 .done .nil)) .nil))) (.cons 11 (.all (.cons 8 (.all (.cons 9 .done .nil)) .nil)) .nil)))) .nil)) .nil)) (.cons 5 (.all (.cons 4 (.all (.cons 7 (.take 10 (.all (.cons 8 (.all (.cons 9 (.all (.cons 11 .done .nil)) (.cons 11 (.all (.cons 9 .done .nil)) .nil))) (.cons 11 (.all (.cons 8 (.all (.cons 9 .done .nil)) .nil)) .nil)))) .nil)) .nil)) .nil))) (.cons 4 (.all (.cons 1 (.all (.cons 5 (.all (.cons 7 (.take 10 (.all (.cons 8 (.all (.cons 9 (.all (.cons 11 .done .nil)) (.cons 11 (.all (.cons 9 .done .nil)) .nil))) (.cons 11 (.all (.cons 8 (.all (.cons 9 .done .nil)) .nil)) .nil)))) .nil)) .nil)) .nil)) .nil))) .nil))))))) (by kernel_rfl) (by kernel_rfl) ?_
            simp only [go_sem, push_cast, seval, ↓reduceIte, reduceCtorEq, Nat.zero_add, Nat.add_zero, Nat.zero_le, Nat.succ_ne_zero]
            repeat' apply And.intro
            all_goals first
              | omega
              | (refine ⟨(Lg.hd ts2).pos, ts4, 0, rfl, rfl, hg4, ?_⟩
                 rw [bnd_okk] at hK
                 generalize e3 : Lg.typ (Lg.hd ts2).pos ts4 = r at hK hi ⊢
                 cases r with
                 | error q =>
                   obtain ⟨a, c⟩ := q
                   intro ts' d'
                   simp only [go_sem, push_cast, seval, ↓reduceIte, reduceCtorEq, Nat.zero_add, Nat.add_zero, Nat.zero_le, Nat.succ_ne_zero]
                   refine fin_use [] [1000] ?_
                   simp only [go_sem, push_cast, seval, ↓reduceIte, reduceCtorEq, Nat.zero_add, Nat.add_zero, Nat.zero_le, Nat.succ_ne_zero]
                   intro vs hvs _
                   match vs, hvs with
                   | [v1, v2, v3, v4, v5], _ =>
                   simp only [go_sem, push_cast, seval, ↓reduceIte, reduceCtorEq, Nat.zero_add, Nat.add_zero, Nat.zero_le, Nat.succ_ne_zero]
                   refine ⟨_, _, _, _, _, _, _, rfl, rfl, rfl, _, _, rfl, ?_⟩
                   simp only [rbox, zeroN, List.map_cons, List.map_nil, go_sem, push_cast, seval, ↓reduceIte, reduceCtorEq, Nat.zero_add, Nat.add_zero, Nat.zero_le, Nat.succ_ne_zero]
                   exact ⟨_, .cons (le_node le_nil) (.cons (.rfl _) (.cons (.rfl _) .nil)), hK⟩
                 | ok q =>
                   obtain ⟨x, ts3⟩ := q
                   intro hg3
                   have hl3 := Lg.item_eats _ _ _ hi
                   have hp := hpay _ _ _ hi
                   simp only [if_pos hl3] at hK
                   simp only [go_sem, push_cast, seval, ↓reduceIte, reduceCtorEq, Nat.zero_add, Nat.add_zero, Nat.zero_le, Nat.succ_ne_zero]
                   repeat' apply And.intro
                   all_goals first
                     | omega
                     | (simp only [List.length_append, treeDs_length, List.length_cons, List.length_nil]; done)
                     | (refine ⟨⟨(51, (y :: acc) ++ [x], ts3), ?_, hg3, ?_, post_bnd hK (fun _ _ h => h) (fun xs ts' e h => ?_)⟩,
                         ⟨rfl, subm_put rfl (subm_put rfl (subm_put rfl (subm_put rfl subm_nix))), subm_put rfl (subm_put ?_ (subm_put rfl (subm_put rfl subm_nix))), ?_⟩, hl3⟩
                        · first | exact .inl rfl | exact .inr rfl
                        · show Lg.sizes ((y :: acc) ++ [x]) + 3 * ts3.length ≤ 6291456
                          rw [sizes_snoc]; omega
                        · have h2 : outT Kr ((y :: acc) ++ x :: xs) := h
                          simpa using h2
                        · show _ = some (Box.mk [_, _, _, _, kidsLV 51 ((y :: acc) ++ [x])] _); rw [kidsLV_snoc]; rfl
                        · show subm _ (kidsAr 51 ((y :: acc) ++ [x]))
                          refine subm_kids ?_
                          first | rfl | (show some (5, 36, _) = _; rw [set_kids])))
    · rw [if_pos (by simpa using h)] at hK
      have hT : outT Kr acc := by
        have h2 : outT Kr (acc ++ []) := hK
        rwa [List.append_nil] at h2
      have hz : Lg.size (.node 0 [] 0 0 acc) ≤ 9223372036854775807 := by
        rw [size_eq]
        show 1 + Lg.sizes acc ≤ _
        omega
      unfold outT at hT
      rcases hd with rfl | rfl
      all_goals
        cases acc with
        | nil =>
          simp only [go_sem, push_cast, seval, ↓reduceIte, reduceCtorEq, Nat.zero_add, Nat.add_zero, Nat.zero_le, Nat.succ_ne_zero]
          refine ⟨_, .node 0 [] 0 0 [], rfl, le_node le_nil, hz, ?_⟩
          simp only [go_sem, push_cast, seval, ↓reduceIte, reduceCtorEq, Nat.zero_add, Nat.add_zero, Nat.zero_le, Nat.succ_ne_zero]
          refine ⟨fun h4 => ?_, fun h4 => ?_⟩
          · rw [if_pos (by have := of_decide_eq_true h4; omega)] at hT
            refine fin_use [] [] ?_
            simp only [go_sem, push_cast, seval, ↓reduceIte, reduceCtorEq, Nat.zero_add, Nat.add_zero, Nat.zero_le, Nat.succ_ne_zero]
            refine ⟨_, _, _, _, _, _, _, rfl, rfl, rfl, ?_⟩
            simp only [rbox, zeroN, List.map_cons, List.map_nil, go_sem, push_cast, seval, ↓reduceIte, reduceCtorEq, Nat.zero_add, Nat.add_zero, Nat.zero_le, Nat.succ_ne_zero]
            exact ⟨_, .cons (le_node le_nil) (.cons (.rfl _) (.cons (.rfl _) .nil)), hT⟩
          · rw [if_neg (by have := of_decide_eq_false h4; omega)] at hT
            refine fin_use [] [] ?_
            simp only [go_sem, push_cast, seval, ↓reduceIte, reduceCtorEq, Nat.zero_add, Nat.add_zero, Nat.zero_le, Nat.succ_ne_zero]
            refine ⟨_, _, _, _, _, _, _, rfl, rfl, rfl, ?_⟩
            simp only [rbox, zeroN, List.map_cons, List.map_nil, go_sem, push_cast, seval, ↓reduceIte, reduceCtorEq, Nat.zero_add, Nat.add_zero, Nat.zero_le, Nat.succ_ne_zero]
            exact ⟨_, .cons (le_node le_nil) (.cons (.rfl _) (.cons (.rfl _) .nil)), hT⟩
        | cons y acc =>
          simp only [go_sem, push_cast, seval, ↓reduceIte, reduceCtorEq, Nat.zero_add, Nat.add_zero, Nat.zero_le, Nat.succ_ne_zero]
          refine ⟨_, .node 0 [] 0 0 (y :: acc), rfl, le_node (.rfl _), hz, ?_⟩
          simp only [go_sem, push_cast, seval, ↓reduceIte, reduceCtorEq, Nat.zero_add, Nat.add_zero, Nat.zero_le, Nat.succ_ne_zero]
          refine ⟨fun h4 => ?_, fun h4 => ?_⟩
          · rw [if_pos (by have := of_decide_eq_true h4; omega)] at hT
            refine fin_use [] [] ?_
            simp only [go_sem, push_cast, seval, ↓reduceIte, reduceCtorEq, Nat.zero_add, Nat.add_zero, Nat.zero_le, Nat.succ_ne_zero]
            refine ⟨_, _, _, _, _, _, _, rfl, rfl, rfl, ?_⟩
            simp only [rbox, zeroN, List.map_cons, List.map_nil, go_sem, push_cast, seval, ↓reduceIte, reduceCtorEq, Nat.zero_add, Nat.add_zero, Nat.zero_le, Nat.succ_ne_zero]
            exact ⟨_, .cons (le_node le_nil) (.cons (.rfl _) (.cons (.rfl _) .nil)), hT⟩
          · rw [if_neg (by have := of_decide_eq_false h4; omega)] at hT
            refine fin_use [] [] ?_
            simp only [go_sem, push_cast, seval, ↓reduceIte, reduceCtorEq, Nat.zero_add, Nat.add_zero, Nat.zero_le, Nat.succ_ne_zero]
            refine ⟨_, _, _, _, _, _, _, rfl, rfl, rfl, ?_⟩
            simp only [rbox, zeroN, List.map_cons, List.map_nil, go_sem, push_cast, seval, ↓reduceIte, reduceCtorEq, Nat.zero_add, Nat.add_zero, Nat.zero_le, Nat.succ_ne_zero]
            exact ⟨_, .cons (le_node (.rfl _)) (.cons (.rfl _) (.cons (.rfl _) .nil)), hT⟩

end Lx
/-
  A tree has no more nodes than thrice the tokens that it was read from.
-/
namespace Lg

def Pay {α : Type} (sz : α → Nat) (r : PR α) (n : Nat) : Prop := ∀ x ts', r = .ok (x, ts') → sz x + 3 * ts'.length ≤ 3 * n
def one0 {α : Type} (_ : α) : Nat := 0
theorem ok_inj {α : Type} {x y : α} {ts ts' : List Tok} (h : (.ok (x, ts) : PR α) = .ok (y, ts')) : x = y ∧ ts = ts' := by
  simp only [Except.ok.injEq, Prod.mk.injEq] at h; exact h
theorem size_node (k : Int) (t : Bs) (n p : Int) (ks : List Tree) : size (.node k t n p ks) = 1 + sizes ks := by rw [size]
theorem sizes_nil : sizes [] = 0 := by rw [sizes]
theorem sizes_cons (x : Tree) (xs : List Tree) : sizes (x :: xs) = size x + sizes xs := by rw [sizes]
theorem sizes_app (xs ys : List Tree) : sizes (xs ++ ys) = sizes xs + sizes ys := by
  induction xs with
  | nil => simp [sizes_nil]
  | cons x xs ih => simp only [List.cons_append, sizes_cons, ih]; omega
theorem size_kids (t : Tree) : size t = 1 + sizes t.kids := by cases t; rw [size_node]; rfl
theorem tail3 {ts : List Tok} (h : ts.tail.length < ts.length) : ts.tail.length + 1 ≤ ts.length := h
theorem name_pay {ts ts' : List Tok} {x : Tree} (h : name ts = .ok (x, ts')) : size x = 1 ∧ ts'.length + 1 ≤ ts.length := by
  have := name_eats ts _ _ h
  rw [name_eq h, size_node, sizes_nil]
  exact ⟨rfl, this⟩
theorem number_pay {n : Int} {ts ts' : List Tok} {x : Int} (h : number n ts = .ok (x, ts')) : ts'.length + 1 ≤ ts.length := number_eats n ts _ _ h
theorem must_pay {s : Bs} {ts ts' : List Tok} {x : Unit} (h : must s ts = .ok (x, ts')) : ts'.length + 1 ≤ ts.length := must_eats s ts _ _ h
theorem size_withKind (t : Tree) (k : Int) : size (t.withKind k) = size t := by cases t; simp only [Tree.withKind, size_node]
theorem size_withNum (t : Tree) (k : Int) : size (t.withNum k) = size t := by cases t; simp only [Tree.withNum, size_node]
theorem size_withPos (t : Tree) (k : Int) : size (t.withPos k) = size t := by cases t; simp only [Tree.withPos, size_node]
theorem size_withKids (t : Tree) (ks : List Tree) : size (t.withKids ks) = 1 + sizes ks := by cases t; simp only [Tree.withKids, size_node]
theorem more_pay {n x : Tree} {ts ts' : List Tok} (h : more n ts = .ok (x, ts')) : size x = size n ∧ ts'.length ≤ ts.length := by
  refine ⟨?_, more_keeps n ts _ _ h⟩
  unfold more at h
  split at h
  · obtain ⟨v, ts1, _, h⟩ := bnd_ok h
    obtain ⟨rfl, _⟩ := ok_inj h
    exact size_withNum _ _
  · split at h
    · obtain ⟨v, ts1, _, h⟩ := bnd_ok h
      obtain ⟨rfl, _⟩ := ok_inj h
      exact size_withNum _ _
    · obtain ⟨rfl, _⟩ := ok_inj h; rfl
theorem term_pay {x : Tree} {ts ts' : List Tok} (h : term ts = .ok (x, ts')) : size x = 1 ∧ ts'.length + 1 ≤ ts.length := by
  refine ⟨?_, term_eats ts _ _ h⟩
  unfold term at h
  split at h
  · obtain ⟨v, ts1, _, h⟩ := bnd_ok h
    obtain ⟨rfl, _⟩ := ok_inj h
    rw [size_node, sizes_nil]
  · split at h
    · obtain ⟨v, ts1, _, h⟩ := bnd_ok h
      obtain ⟨rfl, _⟩ := ok_inj h
      rw [size_node, sizes_nil]
    · obtain ⟨v, ts1, e, h⟩ := bnd_ok h
      rw [(more_pay h).1, (name_pay e).1]
theorem cmp_pay {x : Bs} {ts ts' : List Tok} (h : cmp ts = .ok (x, ts')) : ts'.length + 1 ≤ ts.length := cmp_eats ts _ _ h
theorem fact_pay {x : Tree} {ts ts' : List Tok} (h : fact ts = .ok (x, ts')) : size x + 3 * ts'.length ≤ 3 * ts.length := by
  obtain ⟨a, ts1, e1, h⟩ := bnd_ok h
  obtain ⟨op, ts2, e2, h⟩ := bnd_ok h
  obtain ⟨b, ts3, e3, h⟩ := bnd_ok h
  obtain ⟨rfl, rfl⟩ := ok_inj h
  have h1 := term_pay e1
  have h2 := cmp_pay e2
  have h3 := term_pay e3
  rw [size_node, sizes_cons, sizes_cons, sizes_nil]
  omega
theorem listTail_pay {one : List Tok → PR Tree} (hone : ∀ ts x ts', one ts = .ok (x, ts') → size x + 3 * ts'.length ≤ 3 * ts.length) (n : Nat) : ∀ (ts : List Tok), ts.length = n → ∀ xs ts', listTail one ts = .ok (xs, ts') → sizes xs + 3 * ts'.length ≤ 3 * ts.length := by
  induction n using Nat.strongRecOn with
  | _ n ih =>
    intro ts hn xs ts' h
    rw [listTail] at h
    split at h
    · split at h
      · cases h
      · rename_i x ts1 e
        have h1 := hone _ _ _ e
        have h2 := tail_le ts
        split at h
        · obtain ⟨ys, ts2, e2, h⟩ := bnd_ok h
          have := ih ts1.length (by omega) ts1 rfl ys ts2 e2
          obtain ⟨rfl, rfl⟩ := ok_inj h
          rw [sizes_cons]
          omega
        · cases h
    · obtain ⟨rfl, rfl⟩ := ok_inj h
      rw [sizes_nil]; omega
theorem list_pay {one : List Tok → PR Tree} (hone : ∀ ts x ts', one ts = .ok (x, ts') → size x + 3 * ts'.length ≤ 3 * ts.length) {ts ts' : List Tok} {xs : List Tree} (h : list one ts = .ok (xs, ts')) : sizes xs + 3 * ts'.length ≤ 3 * ts.length := by
  obtain ⟨x, ts1, e, h⟩ := bnd_ok h
  obtain ⟨ys, ts2, e2, h⟩ := bnd_ok h
  obtain ⟨rfl, rfl⟩ := ok_inj h
  have h1 := hone _ _ _ e
  have h2 := listTail_pay hone _ ts1 rfl _ _ e2
  rw [sizes_cons]; omega
theorem term_pay' : ∀ ts x ts', term ts = .ok (x, ts') → size x + 3 * ts'.length ≤ 3 * ts.length := fun ts x ts' h => by have := term_pay h; omega
theorem args_pay {ts ts' : List Tok} {xs : List Tree} (h : args ts = .ok (xs, ts')) : sizes xs + 3 * ts'.length + 6 ≤ 3 * ts.length := by
  obtain ⟨_, ts1, e1, h⟩ := bnd_ok h
  have h1 := must_pay e1
  split at h
  · rename_i hr
    have := isT_lt hr
    obtain ⟨rfl, rfl⟩ := ok_inj h
    rw [sizes_nil]; omega
  · obtain ⟨ys, ts2, e2, h⟩ := bnd_ok h
    obtain ⟨_, ts3, e3, h⟩ := bnd_ok h
    obtain ⟨rfl, rfl⟩ := ok_inj h
    have h2 := list_pay term_pay' e2
    have h3 := must_pay e3
    omega
theorem sort_pay {x : Tree} {ts ts' : List Tok} (h : sort ts = .ok (x, ts')) : size x + 3 * ts'.length ≤ 3 * ts.length := by
  unfold sort at h
  split at h
  · rename_i hr; have := isT_lt hr
    obtain ⟨rfl, rfl⟩ := ok_inj h; rw [size_node, sizes_nil]; omega
  · split at h
    · rename_i hr; have := isT_lt hr
      obtain ⟨rfl, rfl⟩ := ok_inj h; rw [size_node, sizes_nil]; omega
    · split at h
      · obtain ⟨k, ts1, e, h⟩ := bnd_ok h
        obtain ⟨rfl, rfl⟩ := ok_inj h
        have h1 := name_pay e
        have h2 := tail_le ts
        rw [size_node, sizes_cons, sizes_nil]; omega
      · cases h
theorem field_pay : ∀ ts x ts', field ts = .ok (x, ts') → size x + 3 * ts'.length ≤ 3 * ts.length := fun ts x ts' h => by
  obtain ⟨n, ts1, e, h⟩ := bnd_ok h
  have h1 := name_pay e
  split at h
  · obtain ⟨k, ts2, e2, h⟩ := bnd_ok h
    obtain ⟨_, ts3, e3, h⟩ := bnd_ok h
    obtain ⟨rfl, rfl⟩ := ok_inj h
    have h2 := name_pay e2
    have h3 := must_pay e3
    have h4 := tail_le ts1
    rw [size_withKids, sizes_cons, sizes_nil]; omega
  · obtain ⟨rfl, rfl⟩ := ok_inj h
    rw [size_withKind]; omega
theorem mode_pay {x : Tree} {ts ts' : List Tok} (h : mode ts = .ok (x, ts')) : size x + 3 * ts'.length ≤ 3 * ts.length := by
  unfold mode at h
  split at h
  · rename_i hr; have := isT_lt hr
    obtain ⟨rfl, rfl⟩ := ok_inj h; rw [size_node, sizes_nil]; omega
  · split at h
    · obtain ⟨k, ts1, e, h⟩ := bnd_ok h
      obtain ⟨rfl, rfl⟩ := ok_inj h
      have h1 := name_pay e
      have h2 := tail_le ts
      rw [size_node, sizes_cons, sizes_nil]; omega
    · obtain ⟨_, ts1, e, h⟩ := bnd_ok h
      have h0 := must_pay e
      split at h
      · obtain ⟨k, ts2, e2, h⟩ := bnd_ok h
        obtain ⟨rfl, rfl⟩ := ok_inj h
        have h1 := name_pay e2
        have h2 := tail_le ts1
        rw [size_node, sizes_cons, sizes_nil]; omega
      · obtain ⟨k, ts2, e2, h⟩ := bnd_ok h
        obtain ⟨rfl, rfl⟩ := ok_inj h
        have h1 := name_pay e2
        rw [size_node, sizes_cons, sizes_nil]; omega
theorem param_pay : ∀ ts x ts', param ts = .ok (x, ts') → size x + 3 * ts'.length ≤ 3 * ts.length := fun ts x ts' h => by
  obtain ⟨n, ts1, e, h⟩ := bnd_ok h
  obtain ⟨_, ts2, e2, h⟩ := bnd_ok h
  obtain ⟨m, ts3, e3, h⟩ := bnd_ok h
  obtain ⟨rfl, rfl⟩ := ok_inj h
  have h1 := name_pay e
  have h2 := must_pay e2
  have h3 := mode_pay e3
  rw [size_withKids, sizes_cons, sizes_nil]; omega
theorem ended_pay {n x : Tree} {ts ts' : List Tok} (h : ended n ts = .ok (x, ts')) : x = n ∧ ts'.length + 1 ≤ ts.length := by
  obtain ⟨_, ts1, e, h⟩ := bnd_ok h
  obtain ⟨rfl, rfl⟩ := ok_inj h
  exact ⟨rfl, must_pay e⟩
theorem nameAt_pay {k : Int} {x : Tree} {ts ts' : List Tok} (h : nameAt k ts = .ok (x, ts')) : size x = 1 ∧ ts'.length + 1 ≤ ts.length := by
  refine ⟨?_, nameAt_eats k ts _ _ h⟩
  obtain ⟨n, ts1, e, h⟩ := bnd_ok h
  obtain ⟨_, ts2, _, h⟩ := bnd_ok h
  obtain ⟨v, ts3, _, h⟩ := bnd_ok h
  obtain ⟨_, ts4, _, h⟩ := bnd_ok h
  obtain ⟨rfl, rfl⟩ := ok_inj h
  rw [size_withNum, size_withKind]; exact (name_pay e).1
theorem expr_pay {x : Tree} {ts ts' : List Tok} (h : expr ts = .ok (x, ts')) : size x + 3 * ts'.length ≤ 3 * ts.length := by
  unfold expr at h
  split at h
  · rename_i hr; have h0 := isT_lt hr
    obtain ⟨v, ts1, e, h⟩ := bnd_ok h
    obtain ⟨rfl, rfl⟩ := ok_inj h
    have := number_pay e
    rw [size_node, sizes_nil]; omega
  split at h
  · rename_i hr; have h0 := isT_lt hr
    obtain ⟨v, ts1, e, h⟩ := bnd_ok h
    obtain ⟨rfl, rfl⟩ := ok_inj h
    have := name_pay e
    rw [size_node, sizes_nil]; omega
  split at h
  · rename_i hr; have h0 := isT_lt hr
    split at h
    · obtain ⟨v, ts1, e, h⟩ := bnd_ok h
      obtain ⟨rfl, rfl⟩ := ok_inj h
      have := name_pay e
      have := tail_le ts.tail
      rw [size_node, sizes_nil]; omega
    · obtain ⟨v, ts1, e, h⟩ := bnd_ok h
      obtain ⟨rfl, rfl⟩ := ok_inj h
      have := name_pay e
      rw [size_node, sizes_nil]; omega
  split at h
  · exact term_pay' _ _ _ h
  obtain ⟨n, ts1, e, h⟩ := bnd_ok h
  have h1 := name_pay e
  split at h
  · obtain ⟨xs, ts2, e2, h⟩ := bnd_ok h
    obtain ⟨rfl, rfl⟩ := ok_inj h
    have := args_pay e2
    rw [size_withKids]; omega
  split at h
  · obtain ⟨k, ts2, e2, h⟩ := bnd_ok h
    obtain ⟨_, ts3, e3, h⟩ := bnd_ok h
    obtain ⟨rfl, rfl⟩ := ok_inj h
    have := term_pay e2
    have := must_pay e3
    have := tail_le ts1
    rw [size_withKids, sizes_cons, sizes_nil]; omega
  split at h
  · rename_i hr
    simp only [Bool.and_eq_true] at hr
    have h0 := isT_lt hr.1
    obtain ⟨k, ts2, e2, h⟩ := bnd_ok h
    obtain ⟨rfl, rfl⟩ := ok_inj h
    have := name_pay e2
    rw [size_node, sizes_cons, sizes_cons, sizes_nil]; omega
  split at h
  · rename_i hr
    simp only [Bool.and_eq_true] at hr
    have h0 := isT_lt hr.1
    obtain ⟨k, ts2, e2, h⟩ := bnd_ok h
    obtain ⟨rfl, rfl⟩ := ok_inj h
    have := name_pay e2
    rw [size_node, sizes_cons, sizes_cons, sizes_nil]; omega
  · have := more_pay h
    omega
theorem named_pay {n x : Tree} (hn : size n = 1) {ts ts' : List Tok} (h : named n ts = .ok (x, ts')) : size x + 3 * ts'.length ≤ 3 * ts.length + 1 := by
  unfold named at h
  split at h
  · obtain ⟨xs, ts2, e2, h⟩ := bnd_ok h
    obtain ⟨rfl, rfl⟩ := ok_inj h
    have := args_pay e2
    rw [size_node, sizes_cons, sizes_nil, size_withKids]; omega
  split at h
  · obtain ⟨a, ts1, e1, h⟩ := bnd_ok h
    obtain ⟨_, ts2, e2, h⟩ := bnd_ok h
    obtain ⟨_, ts3, e3, h⟩ := bnd_ok h
    obtain ⟨b, ts4, e4, h⟩ := bnd_ok h
    obtain ⟨rfl, rfl⟩ := ok_inj h
    have := term_pay e1
    have := must_pay e2
    have := must_pay e3
    have := term_pay e4
    have := tail_le ts
    rw [size_withKids, sizes_cons, sizes_cons, sizes_nil]; omega
  · obtain ⟨_, ts1, e1, h⟩ := bnd_ok h
    obtain ⟨b, ts2, e2, h⟩ := bnd_ok h
    obtain ⟨rfl, rfl⟩ := ok_inj h
    have := must_pay e1
    have := expr_pay e2
    rw [size_withKids, sizes_cons, sizes_nil]; omega
/-- A part whose trees are paid for. -/
def PayF (f : List Tok → PR Tree) : Prop := ∀ ts x ts', f ts = .ok (x, ts') → size x + 3 * ts'.length ≤ 3 * ts.length
theorem branch_pay {block : List Tok → PR Tree} (hb : PayF block) {k at_ : Int} {x : Tree} {ts ts' : List Tok} (h : branch block k at_ ts = .ok (x, ts')) : size x + 3 * ts'.length ≤ 3 * ts.length := by
  obtain ⟨n, ts1, e1, h⟩ := bnd_ok h
  obtain ⟨b, ts2, e2, h⟩ := bnd_ok h
  obtain ⟨rfl, rfl⟩ := ok_inj h
  have h1 := fact_pay e1
  have h2 := hb _ _ _ e2
  rw [size_node, sizes_app, sizes_cons, sizes_nil]
  rw [size_kids] at h1
  omega
theorem stmt_pay {block : List Tok → PR Tree} (hb : PayF block) : PayF (stmt block) := fun ts x ts' h => by
  unfold stmt at h
  split at h
  · rename_i hr; have h0 := isT_lt hr
    obtain ⟨n, ts1, e, h⟩ := bnd_ok h
    obtain ⟨rfl, h2⟩ := ended_pay h
    have := name_pay e
    rw [size_withPos, size_withKind]; omega
  split at h
  · rename_i hr; have h0 := isT_lt hr
    obtain ⟨n, ts1, e, h⟩ := bnd_ok h
    obtain ⟨rfl, h2⟩ := ended_pay h
    have := nameAt_pay e
    rw [size_withPos]; omega
  split at h
  · rename_i hr; have h0 := isT_lt hr
    obtain ⟨n, ts1, e, h⟩ := bnd_ok h
    obtain ⟨rfl, h2⟩ := ended_pay h
    have := nameAt_pay e
    rw [size_withPos]; omega
  split at h
  · rename_i hr; have h0 := isT_lt hr
    obtain ⟨n, ts1, e, h⟩ := bnd_ok h
    have h1 := branch_pay hb e
    rw [size_kids] at h1
    split at h
    · obtain ⟨b, ts2, e2, h⟩ := bnd_ok h
      obtain ⟨rfl, rfl⟩ := ok_inj h
      have h2 := hb _ _ _ e2
      have := tail_le ts1
      rw [size_withKids, sizes_app, sizes_cons, sizes_nil]; omega
    · obtain ⟨rfl, rfl⟩ := ok_inj h
      rw [size_withKids, sizes_app, sizes_cons, sizes_nil, size_node, sizes_nil]; omega
  split at h
  · have h1 := branch_pay hb h
    have := tail_le ts
    omega
  split at h
  · rename_i hr; have h0 := isT_lt hr
    split at h
    · obtain ⟨rfl, h2⟩ := ended_pay h
      rw [size_node, sizes_nil]; omega
    · obtain ⟨y, ts1, e, h⟩ := bnd_ok h
      obtain ⟨rfl, h2⟩ := ended_pay h
      have := term_pay e
      rw [size_node, sizes_cons, sizes_nil]; omega
  split at h
  · rename_i hr; have h0 := isT_lt hr
    obtain ⟨rfl, h2⟩ := ended_pay h
    rw [size_node, sizes_nil]; omega
  split at h
  · rename_i hr; have h0 := isT_lt hr
    obtain ⟨n, ts1, e, h⟩ := bnd_ok h
    obtain ⟨xs, ts2, e2, h⟩ := bnd_ok h
    obtain ⟨rfl, h2⟩ := ended_pay h
    have := name_pay e
    have := args_pay e2
    rw [size_node]; omega
  · obtain ⟨n, ts1, e, h⟩ := bnd_ok h
    obtain ⟨m, ts2, e2, h⟩ := bnd_ok h
    obtain ⟨rfl, h2⟩ := ended_pay h
    have h3 := name_pay e
    have := named_pay h3.1 e2
    omega
theorem stmts_pay {one : List Tok → PR Tree} (hone : PayF one) (n : Nat) : ∀ (ts : List Tok), ts.length = n → ∀ xs ts', stmts one ts = .ok (xs, ts') → sizes xs + 3 * ts'.length ≤ 3 * ts.length := by
  induction n using Nat.strongRecOn with
  | _ n ih =>
    intro ts hn xs ts' h
    rw [stmts] at h
    split at h
    · obtain ⟨rfl, rfl⟩ := ok_inj h
      have := tail_le ts
      rw [sizes_nil]; omega
    · split at h
      · cases h
      · rename_i x ts1 e
        have h1 := hone _ _ _ e
        split at h
        · obtain ⟨ys, ts2, e2, h⟩ := bnd_ok h
          have := ih ts1.length (by omega) ts1 rfl ys ts2 e2
          obtain ⟨rfl, rfl⟩ := ok_inj h
          rw [sizes_cons]
          omega
        · cases h
theorem block_pay : ∀ n, PayF (block n)
  | 0 => fun ts x ts' h => by
    rw [block] at h
    split at h <;> cases h
  | n + 1 => fun ts x ts' h => by
    rw [block] at h
    obtain ⟨_, ts1, e1, h⟩ := bnd_ok h
    obtain ⟨xs, ts2, e2, h⟩ := bnd_ok h
    obtain ⟨rfl, rfl⟩ := ok_inj h
    have := must_pay e1
    have := stmts_pay (stmt_pay (block_pay n)) _ ts1 rfl _ _ e2
    rw [size_node]; omega
theorem typWhere_pay {n x : Tree} {ts ts' : List Tok} (h : typWhere n ts = .ok (x, ts')) : size x + 3 * ts'.length ≤ 3 * ts.length + size n := by
  unfold typWhere at h
  split at h
  · obtain ⟨fs, ts1, e1, h⟩ := bnd_ok h
    obtain ⟨_, ts2, e2, h⟩ := bnd_ok h
    obtain ⟨rfl, rfl⟩ := ok_inj h
    have := list_pay (fun _ _ _ h => fact_pay h) e1
    have := must_pay e2
    have := tail_le ts
    rw [size_withKids, sizes_app, size_kids n]; omega
  · obtain ⟨_, ts2, e2, h⟩ := bnd_ok h
    obtain ⟨rfl, rfl⟩ := ok_inj h
    have := must_pay e2
    omega
theorem typ_pay (at_ : Int) : PayF (typ at_) := fun ts x ts' h => by
  obtain ⟨n, ts1, e1, h⟩ := bnd_ok h
  obtain ⟨s, ts2, e2, h⟩ := bnd_ok h
  have h1 := name_pay e1
  have h2 := sort_pay e2
  split at h
  · obtain ⟨fs, ts3, e3, h⟩ := bnd_ok h
    obtain ⟨_, ts4, e4, h⟩ := bnd_ok h
    have h3 := list_pay field_pay e3
    have h4 := must_pay e4
    have h5 := typWhere_pay h
    have := tail_le ts2
    rw [size_node, sizes_cons] at h5
    omega
  · have h5 := typWhere_pay h
    rw [size_node, sizes_cons, sizes_nil] at h5
    omega
theorem fnParams_pay {xs : List Tree} {ts ts' : List Tok} (h : fnParams ts = .ok (xs, ts')) : sizes xs + 3 * ts'.length + 6 ≤ 3 * ts.length := by
  obtain ⟨_, ts1, e1, h⟩ := bnd_ok h
  have h1 := must_pay e1
  split at h
  · rename_i hr; have := isT_lt hr
    obtain ⟨rfl, rfl⟩ := ok_inj h
    rw [sizes_nil]; omega
  · obtain ⟨ps, ts2, e2, h⟩ := bnd_ok h
    obtain ⟨_, ts3, e3, h⟩ := bnd_ok h
    obtain ⟨rfl, rfl⟩ := ok_inj h
    have h2 := list_pay param_pay e2
    have h3 := must_pay e3
    omega
theorem fnRet_pay {x : Tree} {ts ts' : List Tok} (h : fnRet ts = .ok (x, ts')) : size x + 3 * ts'.length ≤ 3 * ts.length + 1 := by
  unfold fnRet at h
  split at h
  · split at h
    · cases h
    · have := mode_pay h
      have := tail_le ts
      omega
  · obtain ⟨rfl, rfl⟩ := ok_inj h
    rw [size_node, sizes_nil]; omega
theorem fn_pay (at_ : Int) : PayF (fn at_) := fun ts x ts' h => by
  obtain ⟨n, ts1, e1, h⟩ := bnd_ok h
  obtain ⟨ps, ts2, e2, h⟩ := bnd_ok h
  obtain ⟨r, ts3, e3, h⟩ := bnd_ok h
  obtain ⟨b, ts4, e4, h⟩ := bnd_ok h
  obtain ⟨rfl, rfl⟩ := ok_inj h
  have h1 := name_pay e1
  have h2 := fnParams_pay e2
  have h3 := fnRet_pay e3
  have h4 := block_pay 8 _ _ _ e4
  rw [size_node, sizes_app, sizes_cons, sizes_cons, sizes_nil]
  omega
theorem item_pay : PayF item := fun ts x ts' h => by
  unfold item at h
  split at h
  · have h1 := fn_pay _ _ _ _ h
    have := tail_le ts
    omega
  · obtain ⟨_, ts1, e1, h⟩ := bnd_ok h
    have h1 := must_pay e1
    have h2 := typ_pay _ _ _ _ h
    omega

end Lg
