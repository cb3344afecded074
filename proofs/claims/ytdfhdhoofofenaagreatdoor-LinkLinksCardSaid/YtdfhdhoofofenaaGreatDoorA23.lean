import Derived.Test.YtdfhdhoofofenaaGreatDoorA17
import Derived.Test.YtdfhdhoofofenaaGreatDoorA20
import Derived.Test.YtdfhdhoofofenaaGreatDoorA22
import Derived.Test.YtdfhdhoofofenaaGreatDoorA19
import Derived.Test.YtdfhdhoofofenaaGreatDoorA00
import Derived.Test.YtdfhdhoofofenaaGreatDoorA21
set_option linter.unusedSimpArgs false
set_option linter.unusedVariables false
namespace Lx
open Go
@[go_sem ↓] theorem clK_normal (pk : List Nat) (K : Bx → Prop) (s : S) : clK pk K .normal s = (okD s.bx pk ∧ K (outB pk s.bx)) := (rfl)
@[go_sem ↓] theorem clK_ret (pk : List Nat) (K : Bx → Prop) (s : S) : clK pk K .ret s = (okD s.bx pk ∧ K (outB pk s.bx)) := (rfl)
@[go_sem ↓] theorem defQ_normal (E : Env) (sp : FuncId → Option SpecX) (d n : Nat) (cs : List Nat) (B2 : Code) (Sc : qkw) (rs : List ResultVar) (Kr : LV → Bx → Ar1 → Prop) (s : S) :
   defQ E sp d n cs B2 Sc rs Kr .normal s = evW s (fun s => Hold (tailK E sp d n cs B2 Sc rs Kr s) ⟨⟩) ⟨⟩ := (rfl)
@[go_sem ↓] theorem defQ_ret (E : Env) (sp : FuncId → Option SpecX) (d n : Nat) (cs : List Nat) (B2 : Code) (Sc : qkw) (rs : List ResultVar) (Kr : LV → Bx → Ar1 → Prop) (s : S) :
   defQ E sp d n cs B2 Sc rs Kr .ret s = resK E rs s fun xs => outK [] none xs s Kr := (rfl)
@[go_sem ↓] theorem finQ_normal (E : Env) (n : Nat) (Sc : qkw) (rs : List ResultVar) (Kr : LV → Bx → Ar1 → Prop) (s : S) : finQ E n Sc rs Kr .normal s = finK E n Sc rs Kr none s := (rfl)
@[go_sem ↓] theorem finQ_ret (E : Env) (n : Nat) (Sc : qkw) (rs : List ResultVar) (Kr : LV → Bx → Ar1 → Prop) (s : S) : finQ E n Sc rs Kr .ret s = finK E n Sc rs Kr none s := (rfl)
@[go_sem ↓] theorem finK_eq (E : Env) (n : Nat) (Sc : qkw) (rs : List ResultVar) (Kr : LV → Bx → Ar1 → Prop) (mo : Option D) (s : S) : finK E n Sc rs Kr mo s = evW s (fun s => Hold (finK E n Sc rs Kr mo s) ⟨⟩) ⟨⟩ := (rfl)
theorem qq0 {E : Env} {n : Nat} {Sc : qkw} {rs : List ResultVar} {Kr : LV → Bx → Ar1 → Prop} {mo : Option D} {s : S} {w : Ph (finK E n Sc rs Kr mo s)} (l bl : List Nat) (h : frzN l s fun s => zv5 bl s fun s => finK1 E n Sc rs Kr mo s) : Hold (finK E n Sc rs Kr mo s) w := ⟨l, bl, h⟩
@[go_sem ↓] theorem blurN_nil (s : S) (K : S → Prop) : zv5 [] s K = K s := (rfl)
@[go_sem ↓] theorem blurN_cons (k : Nat) (l : List Nat) (s : S) (K : S → Prop) : zv5 (k :: l) s K = sm (s.bx k) fun b => evW s (fun s => evW b (fun b => Hold (blur1 s k b fun s => zv5 l s K) ⟨⟩) ⟨⟩) ⟨⟩ := (rfl)
@[go_sem ↓] theorem frzN_nil (s : S) (K : S → Prop) : frzN [] s K = evW s K ⟨⟩ := (rfl)
@[go_sem ↓] theorem frzN_cons (r : Nat) (l : List Nat) (s : S) (K : S → Prop) : frzN (r :: l) s K = sm (s.ar r) fun a => frzN l { s with bx := mapf (Box.fz r a.2.2.length (.sl a.1 a.2.2 false)) s.bx, ar := del r s.ar } K := (rfl)
@[go_sem ↓] theorem finK1_eq (E : Env) (n : Nat) (Sc : qkw) (rs : List ResultVar) (Kr : LV → Bx → Ar1 → Prop) (mo : Option D) (s : S) :
   finK1 E n Sc rs Kr mo s = (evW (capK n) (fun ks => okB s.bx ks ∧ evW s (fun s => Hold (Sc mo (fp ks s.bx) fun bx4 => resK E rs { s with bx := mrg ks bx4 s.bx } fun xs => outK [] none xs { s with bx := mrg ks bx4 s.bx } Kr) ⟨⟩) ⟨⟩) ⟨⟩) := (rfl)
@[push_cast] theorem capK_1 : capK 1 = [1000] := (rfl)
@[push_cast] theorem capK_2 : capK 2 = [1000, 1001] := (rfl)
@[push_cast] theorem capK_3 : capK 3 = [1000, 1001, 1002] := (rfl)
@[push_cast] theorem capK_4 : capK 4 = [1000, 1001, 1002, 1003] := (rfl)
@[push_cast] theorem recD_none : recD none = .imm .nilIface := (rfl)
@[push_cast] theorem recD_some (d : D) : recD (some d) = d := (rfl)
@[push_cast] theorem bps_1 : bps 1 = [.bp 1000 0] := (rfl)
@[push_cast] theorem bps_2 : bps 2 = [.bp 1000 0, .bp 1001 0] := (rfl)
@[push_cast] theorem bps_3 : bps 3 = [.bp 1000 0, .bp 1001 0, .bp 1002 0] := (rfl)
@[push_cast] theorem bps_4 : bps 4 = [.bp 1000 0, .bp 1001 0, .bp 1002 0, .bp 1003 0] := (rfl)
@[push_cast] theorem laysl_nil : zx3 [] = nix := (rfl)
@[push_cast] theorem laysl_cons (i : Nat) (x : LV) (l : List (Nat × LV)) : zx3 ((i, x) :: l) = put i x (zx3 l) := (rfl)
@[push_cast] theorem fpl_nil (bx : Bx) (i : Nat) : fpl bx i [] = nix := (rfl)
@[push_cast] theorem fpl_cons (bx : Bx) (i k : Nat) (ks : List Nat) : fpl bx i (k :: ks) = match bx k with | some b => put i b (fpl bx (i + 1) ks) | none => fpl bx (i + 1) ks := (rfl)
theorem tail_use {E : Env} {sp : FuncId → Option SpecX} {d n : Nat} {cs : List Nat} {B2 : Code} {Sc : qkw} {rs : List ResultVar} {Kr : LV → Bx → Ar1 → Prop} {s : S} {w : Ph (tailK E sp d n cs B2 Sc rs Kr s)}
  (ks : List Nat) (L : List (Nat × LV)) (h1 : d < s.n) (h2 : ∀ p ∈ L, p.1 ≠ d) (h3 : nodup ks = true) (h4 : okB s.bx ks) (h5 : n ≤ ks.length) (h6 : cs.map s.tm = (ks.take n).map (fun k => some (.bp k 0))) (h7 : ∀ p ∈ L, s.tm p.1 = some p.2) (h8 : ∀ k ∈ kyss (L.map (·.2)), k ∈ ks)
  (h : evW (⟨s.n, zx3 (L.map fun p => (p.1, ren ks p.2)), fpl s.bx 1000 ks, nix⟩ : S) (fun s2 => cK E sp B2 s2 (finQ E n Sc rs Kr) (fun d s' => finK E n Sc rs Kr (some d) s')) ⟨⟩) : Hold (tailK E sp d n cs B2 Sc rs Kr s) w :=
 ⟨ks, L, h1, h2, h3, h4, h5, h6, h7, h8, h⟩
@[push_cast] theorem mrg_three (k1 k2 k3 : Nat) (B1 B2 B3 : Box) (bx : Bx) : mrg [k1, k2, k3] (put 1000 B1 (put 1001 B2 (put 1002 B3 nix))) bx = put k1 B1 (put k2 B2 (put k3 B3 bx)) := by
  funext j
  by_cases e1 : j = k1
  · subst e1; simp [mrg, ixof, put]
  · by_cases e2 : j = k2
    · subst e2; simp [mrg, ixof, put, e1]
    · by_cases e3 : j = k3
      · subst e3; simp [mrg, ixof, put, e1, e2]
      · simp [mrg, put, e1, e2, e3]
theorem opsL_use {E : Env} {sp : FuncId → Option SpecX} {ops : Array Oper} {l : List Oper} {s : S} {K : S → Prop} {Kp : D → S → Prop}
  (h : evW (ops.toList.map (·.dst)) (fun ds => evW (l.map o3) (fun l => opsM E sp ds l s K Kp) ⟨⟩) ⟨⟩) : opsL E sp ops l s K Kp := (zzw E sp ops l s K Kp).symm ▸ h
end Lx
set_option maxRecDepth 20000
namespace Lx
open Go
open Lg (Tok Tree)
open Go.Proofs (Tryz.prog)
open Go.Proofs.Tryz
def rbox (x : List D) (a e : Int) : Bx := put 1000 ⟨x.map .d, 25⟩ (put 1001 ⟨[.d (.int .i64 a)], 3⟩ (put 1002 ⟨[.d (.int .i64 e)], 26⟩ nix))
def qkf : List D := [.int .i64 0, .st [], .int .i64 0, .int .i64 0, .imm (.slice none 0 0)]
def recS : qkw := fun m bx K => ∃ x1 x2 x3 x4 x5 a e, bx 1000 = some ⟨[.d x1, .d x2, .d x3, .d x4, .d x5], 25⟩ ∧ bx 1001 = some ⟨[.d (.int .i64 a)], 3⟩ ∧ bx 1002 = some ⟨[.d (.int .i64 e)], 26⟩ ∧
 match m with
 | none => K (rbox [x1, x2, x3, x4, x5] a e)
 | some d => ∃ p c, d = .ifc 58 (.ag [.int .i64 p, .int .i64 c]) ∧ K (rbox qkf p c)
theorem rec_OK : OKD Tryz.prog 11 3 recS := by
 refine clos_OKD qzu (E := EV) (sp := spL []) qzt qzm (OKs.ok trivial) func11 rfl ntmps11 results11 rfl rfl rfl call11 ?_
 rintro mo bx K ⟨x1, x2, x3, x4, x5, a, e, h0, h1, h2, hK⟩
 refine ⟨[(1000, ⟨[.d x1, .d x2, .d x3, .d x4, .d x5], 25⟩), (1001, ⟨[.d (.int .i64 a)], 3⟩), (1002, ⟨[.d (.int .i64 e)], 26⟩)], rfl, ⟨by decide, h0, by decide, h1, by decide, h2, trivial⟩, by decide, by decide, ?_⟩
 refine opsL_use ?_
 cases mo with
 | none =>
   simp only [go_sem, push_cast, seval]
   exact hK
 | some d =>
   obtain ⟨p, c, rfl, hK⟩ := hK
   simp only [go_sem, push_cast, seval]
   refine qz7 (.take 1 (.take 3 (.all (.cons 0 (.all (.cons 2 (.all (.cons 4 (.all (.cons 5 (.all (.cons 6 (.all (.cons 7 .done .nil)) .nil)) .nil)) (.cons 5 (.all (.cons 4 (.all (.cons 6 (.all (.cons 7 .done .nil)) .nil)) (.cons 6 (.all (.cons 4 (.all (.cons 7 .done .nil)) .nil)) .nil))) .nil))) (.cons 4 (.all (.cons 2 (.all (.cons 5 (.all (.cons 6 (.all (.cons 7 .done .nil)) .nil)) .nil)) (.cons 5 (.all (.cons 2 (.all (.cons 6 (.all (.cons 7 .done .nil)) .nil)) .nil)) .nil))) (.cons 5 (.all (.cons 2 (.all (.cons 4 (.all (.cons 6 (.all (.cons 7 .done .nil)) .nil)) (.cons 6 (.all (.cons 4 (.all (.cons 7 .done .nil)) .nil)) .nil))) (.cons 4 (.all (.cons 2 (.all (.cons 6 (.all (.cons 7 .done .nil)) .nil)) .nil)) .nil))) .nil)))) (.cons 2 (.all (.cons 0 (.all (.cons 4 (.all (.cons 5 (.all (.cons 6 (.all (.cons 7 .done .nil)) .nil)) .nil)) (.cons 5 (.all (.cons 4 (.all (.cons 6 (.all (.cons 7 .done .nil)) .nil)) (.cons 6 (.all (.cons 4 (.all (.cons 7 .done .nil)) .nil)) .nil))) .nil))) (.cons 4 (.all (.cons 0 (.all (.cons 5 (.all (.cons 6 (.all (.cons 7 .done .nil)) .nil)) .nil)) .nil)) .nil))) (.cons 4 (.all (.cons 0 (.all (.cons 2 (.all (.cons 5 (.all (.cons 6 (.all (.cons 7 .done .nil)) .nil)) .nil)) (.cons 5 (.all (.cons 2 (.all (.cons 6 (.all (.cons 7 .done .nil)) .nil)) .nil)) .nil))) (.cons 2 (.all (.cons 0 (.all (.cons 5 (.all (.cons 6 (.all (.cons 7 .done .nil)) .nil)) .nil)) .nil)) .nil))) .nil)))))) (by kernel_rfl) (by kernel_rfl) ?_
   simp only [go_sem, push_cast, seval]
   repeat' apply And.intro
   all_goals exact hK
def qwy : Spec := fun ys bx Kr _ => ∃ l, ys = [.d (.st l)] ∧ match Lg.parse l with
 | .ok t => Kr (.tup [.d (qzl t), .d (.int .i64 0), .d (.int .i64 0)]) nix none
 | .error (a, c) => Kr (.tup [.d (qzl (.node 0 [] 0 0 [])), .d (.int .i64 a), .d (.int .i64 c)]) nix none
abbrev EP : Env := mkE false (fun _ => false) (fun j => !(j == 2 || j == 3 || j == 4))
theorem qji (y : Tree) (acc : List Tree) (u : D) (x : Tree) : (qzh (y :: acc) ++ [u]).set ((acc.length : Int) + 1).toNat (qzl x) = qzh (y :: acc) ++ [qzl x] := by
 have e : ((acc.length : Int) + 1).toNat = (qzh (y :: acc)).length := by rw [qzp, List.length_cons]; omega
 rw [e]; simp
theorem qqg (xs : List Tree) (x : Tree) : Lg.sizes (xs ++ [x]) = Lg.sizes xs + Lg.size x := by
 induction xs with
 | nil => simp [Lg.sizes]
 | cons y xs ih => simp only [List.cons_append, Lg.sizes, ih]; omega
theorem fnX_OK : OK Tryz.prog 14 (fun ys bx Kr Kp => ∃ at_, fnS at_ ys bx Kr Kp) where
 enters := call14
 calls ys bx Kr Kp h := by obtain ⟨at_, h⟩ := h; exact (fn_OK_ expr_OK at_).calls ys bx Kr Kp h
theorem typX_OK : OK Tryz.prog 16 (fun ys bx Kr Kp => ∃ at_, parS qzl (Lg.typ at_) [.d (.int .i64 at_)] ys bx Kr Kp) where
 enters := call16
 calls ys bx Kr Kp h := by obtain ⟨at_, h⟩ := h; exact (typ_OK at_).calls ys bx Kr Kp h
def outE (Kr : LV → Bx → Ar1 → Prop) (a c : Int) : Prop := Kr (.tup [.d (qzl (.node 0 [] 0 0 [])), .d (.int .i64 a), .d (.int .i64 c)]) nix none
def outT (Kr : LV → Bx → Ar1 → Prop) (xs : List Tree) : Prop := if 4096 < Lg.size (.node 0 [] 0 0 xs) then outE Kr 0 22 else Kr (.tup [.d (qzl (.node 0 [] 0 0 xs)), .d (.int .i64 0), .d (.int .i64 0)]) nix none
set_option maxHeartbeats 4000000 in
theorem parse_OK (hpay : ∀ ts x ts', Lg.item ts = .ok (x, ts') → Lg.size x + 3 * ts'.length ≤ 3 * ts.length) (htoks : OK Tryz.prog 10 toksS) : OK Tryz.prog 4 qwy := by
 refine fn_OKD qzu (E := EP) (sp := spL [(10, toksS), (12, qwk), (13, hasS), (14, .a fun ys bx Kr Kp => ∃ at_, fnS at_ ys bx Kr Kp), (16, .a fun ys bx Kr Kp => ∃ at_, parS qzl (Lg.typ at_) [.d (.int .i64 at_)] ys bx Kr Kp), (15, qvz), (17, sizeS 9223372036854775807)]) qzt qzm (OKs.ok ⟨htoks, qxz, qxu, fnX_OK, typX_OK, qxn, size_OK _ (by decide), trivial⟩)
  (cs := [2, 3, 4]) (n := 3) (d := 19) rec_OK func4 rfl ntmps4 results4 call4 (.more _ (.more _ (.one _ _))) rfl rfl rfl rfl rfl rfl rfl rfl ?_
 rintro ys bx Kr Kp ⟨l, rfl, hK⟩
 refine ⟨by simp, ?_⟩
 simp only [go_sem, push_cast, seval]
 refine ⟨l, rfl, ?_⟩
 unfold Lg.parse at hK
 cases htk : Lg.toks l with
 | error p =>
   obtain ⟨a, c⟩ := p
   rw [htk] at hK
   intro hc
   simp only [go_sem, push_cast, seval]
   refine ⟨fun h => ?_, fun h => ?_⟩
   · refine qz7 (.all (.cons 0 (.all (.cons 1 (.all (.cons 2 (.all (.cons 3 (.all (.cons 4 (.all (.cons 5 .done .nil)) .nil)) .nil)) (.cons 3 (.all (.cons 2 (.all (.cons 4 (.all (.cons 5 .done .nil)) .nil)) (.cons 4 (.all (.cons 2 (.all (.cons 5 .done .nil)) .nil)) .nil))) .nil))) (.cons 2 (.all (.cons 1 (.all (.cons 3 (.all (.cons 4 (.all (.cons 5 .done .nil)) .nil)) .nil)) (.cons 3 (.all (.cons 1 (.all (.cons 4 (.all (.cons 5 .done .nil)) .nil)) .nil)) .nil))) (.cons 3 (.all (.cons 1 (.all (.cons 2 (.all (.cons 4 (.all (.cons 5 .done .nil)) .nil)) (.cons 4 (.all (.cons 2 (.all (.cons 5 .done .nil)) .nil)) .nil))) (.cons 2 (.all (.cons 1 (.all (.cons 4 (.all (.cons 5 .done .nil)) .nil)) .nil)) .nil))) .nil)))) (.cons 1 (.all (.cons 0 (.all (.cons 2 (.all (.cons 3 (.all (.cons 4 (.all (.cons 5 .done .nil)) .nil)) .nil)) (.cons 3 (.all (.cons 2 (.all (.cons 4 (.all (.cons 5 .done .nil)) .nil)) (.cons 4 (.all (.cons 2 (.all (.cons 5 .done .nil)) .nil)) .nil))) .nil))) (.cons 2 (.all (.cons 0 (.all (.cons 3 (.all (.cons 4 (.all (.cons 5 .done .nil)) .nil)) .nil)) .nil)) .nil))) (.cons 2 (.all (.cons 0 (.all (.cons 1 (.all (.cons 3 (.all (.cons 4 (.all (.cons 5 .done .nil)) .nil)) .nil)) (.cons 3 (.all (.cons 1 (.all (.cons 4 (.all (.cons 5 .done .nil)) .nil)) .nil)) .nil))) (.cons 1 (.all (.cons 0 (.all (.cons 3 (.all (.cons 4 (.all (.cons 5 .done .nil)) .nil)) .nil)) .nil)) .nil))) .nil)))) (by kernel_rfl) (by kernel_rfl) ?_
     simp only [go_sem, push_cast, seval]
     repeat' apply And.intro
     all_goals exact ⟨_, .cons (qzd qqd) (.cons (.rfl _) (.cons (.rfl _) .nil)), hK⟩
   · exact absurd (by simpa using h) hc
 | ok ts =>
   rw [htk] at hK
   intro hg
   simp only [go_sem, push_cast, seval]
   refine tail_use [2, 3, 4] [(2, .bp 2 0), (3, .bp 3 0), (4, .bp 4 0), (5, .d (.sl 4 (ts.map tokD) false))] ?_ ?_ rfl ?_ ?_ ?_ ?_ ?_ ?_
   · show 19 < 59; decide
   · intro p hp
     simp only [List.mem_cons, List.not_mem_nil, or_false] at hp
     rcases hp with rfl | rfl | rfl | rfl <;> simp
   · exact ⟨⟨_, rfl, rfl⟩, ⟨_, rfl, rfl⟩, ⟨_, rfl, rfl⟩, trivial⟩
   · decide
   · rfl
   · intro p hp
     simp only [List.mem_cons, List.not_mem_nil, or_false] at hp
     rcases hp with rfl | rfl | rfl | rfl <;> rfl
   · intro k hk
     simpa [kyss, kys] using hk
   simp only [go_sem, push_cast, seval]
   replace hK : post (Lg.zz5 ts) (fun xs _ => outT Kr xs) (outE Kr) := by
    have hK' : (match Lg.qxs ts with | .ok t => Kr (.tup [.d (qzl t), .d (.int .i64 0), .d (.int .i64 0)]) nix none | .error (a, c) => outE Kr a c) := hK
    unfold Lg.qxs at hK'
    cases hit : Lg.zz5 ts with
    | error p => obtain ⟨a, c⟩ := p; rw [hit] at hK'; exact hK'
    | ok p =>
      obtain ⟨xs, ts'⟩ := p
      rw [hit] at hK'
      show outT Kr xs
      unfold outT
      simp only at hK'
      split
      · rename_i h; rw [if_pos h] at hK'; exact hK'
      · rename_i h; rw [if_neg h] at hK'; exact hK'
   have hl0 := hg.2
   refine qzk (T := { t : Nat × List Tree × List Tok // (t.1 = 39 ∨ t.1 = 51) ∧ Good t.2.2 ∧ Lg.sizes t.2.1 + 3 * t.2.2.length ≤ 6291456 ∧ post (Lg.zz5 t.2.2) (fun xs _ => outT Kr (t.2.1 ++ xs)) (outE Kr) })
    (fun t => ⟨59, put 2 (.bp 1000 0) (put 3 (.bp 1001 0) (put 4 (.bp 1002 0) (put 6 (.bp 22 0) nix))), put 22 (pbox t.1.2.2 0) (put 1000 ⟨[.d (.int .i64 0), .d (.st []), .d (.int .i64 0), .d (.int .i64 0), qx1 t.1.1 t.1.2.1], 25⟩ (put 1001 ⟨[.d (.int .i64 0)], 3⟩ (put 1002 ⟨[.d (.int .i64 0)], 26⟩ nix))), qjc t.1.1 t.1.2.1⟩) (fun t => t.1.2.2.length)
    ⟨(39, [], ts), .inl rfl, hg, by simp only [Lg.sizes]; omega, qqo hK (fun _ _ h => h) (fun _ _ _ h => h)⟩
    ⟨rfl, qza rfl (qza rfl (qza rfl (qza rfl qzb))), qza rfl (qza rfl (qza rfl (qza rfl qzb))), qzb⟩ ?_
   rintro ⟨⟨d, acc, ts2⟩, hd0, hg20, hb20, hK0⟩
   have hd : d = 39 ∨ d = 51 := hd0
   have hg2 : Good ts2 := hg20
   have hb2 : Lg.sizes acc + 3 * ts2.length ≤ 6291456 := hb20
   have hK : post (Lg.zz5 ts2) (fun xs _ => outT Kr (acc ++ xs)) (outE Kr) := hK0
   have hlen := hg2.2
   have hls := qjv acc
   rw [Lg.zz5] at hK
   simp only [go_sem, push_cast, seval]
   refine ⟨ts2, 0, rfl, rfl, hg2, ?_⟩
   simp only [go_sem, push_cast, seval]
   refine ⟨fun h => ?_, fun h => ?_⟩
   · rw [if_neg (by simpa using h)] at hK
     refine ⟨ts2, 0, rfl, rfl, hg2, ?_⟩
     simp only [go_sem, push_cast, seval]
     refine ⟨ts2, 0, Lg.sFn, rfl, rfl, hg2, fun h2 => ?_, fun h2 => ?_⟩
     · have hi : Lg.item ts2 = Lg.fn (Lg.hd ts2).pos ts2.tail := by unfold Lg.item; rw [if_pos h2]
       rcases hd with rfl | rfl
       · cases acc with
         | nil =>
           simp only [go_sem, push_cast, seval]
           refine qz7 (.take 0 (.take 2 (.take 3 (.all (.cons 1 (.all (.cons 4 (.all (.cons 5 (.all (.cons 6 (.all (.cons 7 (.take 10 (.all (.cons 8 (.all (.cons 9 (.all (.cons 11 .done .nil)) (.cons 11 (.all (.cons 9 .done .nil)) .nil))) (.cons 11 (.all (.cons 8 (.all (.cons 9 .done .nil)) .nil)) .nil)))) .nil)) .nil)) (.cons 6 (.all (.cons 5 (.all (.cons 7 (.take 10 (.all (.cons 8 (.all (.cons 9 (.all (.cons 11 .done .nil)) (.cons 11 (.all (.cons 9 .done .nil)) .nil))) (.cons 11 (.all (.cons 8 (.all (.cons 9 .done .nil)) .nil)) .nil)))) .nil)) .nil)) .nil))) (.cons 5 (.all (.cons 4 (.all (.cons 6 (.all (.cons 7 (.take 10 (.all (.cons 8 (.all (.cons 9 (.all (.cons 11 .done .nil)) (.cons 11 (.all (.cons 9 .done .nil)) .nil))) (.cons 11 (.all (.cons 8 (.all (.cons 9 .done .nil)) .nil)) .nil)))) .nil)) .nil)) (.cons 6 (.all (.cons 4 (.all (.cons 7 (.take 10 (.all (.cons 8 (.all (.cons 9 (.all (.cons 11 .done .nil)) (.cons 11 (.all (.cons 9 .done .nil)) .nil))) (.cons 11 (.all (.cons 8 (.all (.cons 9 .done .nil)) .nil)) .nil)))) .nil)) .nil)) .nil))) (.cons 6 (.all (.cons 4 (.all (.cons 5 (.all (.cons 7 (.take 10 (.all (.cons 8 (.all (.cons 9 (.all (.cons 11 .done .nil)) (.cons 11 (.all (.cons 9 .done .nil)) .nil))) (.cons 11 (.all (.cons 8 (.all (.cons 9 .done .nil)) .nil)) .nil)))) .nil)) .nil)) (.cons 5 (.all (.cons 4 (.all (.cons 7 (.take 10 (.all (.cons 8 (.all (.cons 9 (.all (.cons 11 .done .nil)) (.cons 11 (.all (.cons 9 .done .nil)) .nil))) (.cons 11 (.all (.cons 8 (.all (.cons 9 .done .nil)) .nil)) .nil)))) .nil)) .nil)) .nil))) .nil)))) (.cons 4 (.all (.cons 1 (.all (.cons 5 (.all (.cons 6 (.all (.cons 7 (.take 10 (.all (.cons 8 (.all (.cons 9 (.all (.cons 11 .done .nil)) (.cons 11 (.all (.cons 9 .done .nil)) .nil))) (.cons 11 (.all (.cons 8 (.all (.cons 9 .done .nil)) .nil)) .nil)))) .nil)) .nil)) (.cons 6 (.all (.cons 5 (.all (.cons 7 (.take 10 (.all (.cons 8 (.all (.cons 9 (.all (.cons 11 .done .nil)) (.cons 11 (.all (.cons 9 .done .nil)) .nil))) (.cons 11 (.all (.cons 8 (.all (.cons 9 .done .nil)) .nil)) .nil)))) .nil)) .nil)) .nil))) (.cons 6 (.all (.cons 1 (.all (.cons 5 (.all (.cons 7 (.take 10 (.all (.cons 8 (.all (.cons 9 (.all (.cons 11 .done .nil)) (.cons 11 (.all (.cons 9 .done .nil)) .nil))) (.cons 11 (.all (.cons 8 (.all (.cons 9 .done .nil)) .nil)) .nil)))) .nil)) .nil)) .nil)) .nil))) (.cons 6 (.all (.cons 1 (.all (.cons 4 (.all (.cons 5 (.all (.cons 7 (.take 10 (.all (.cons 8 (.all (.cons 9 (.all (.cons 11 .done .nil)) (.cons 11 (.all (.cons 9 .done .nil)) .nil))) (.cons 11 (.all (.cons 8 (.all (.cons 9 .done .nil)) .nil)) .nil)))) .nil)) .nil)) (.cons 5 (.all (.cons 4 (.all (.cons 7 (.take 10 (.all (.cons 8 (.all (.cons 9 (.all (.cons 11 .done .nil)) (.cons 11 (.all (.cons 9 .done .nil)) .nil))) (.cons 11 (.all (.cons 8 (.all (.cons 9 .done .nil)) .nil)) .nil)))) .nil)) .nil)) .nil))) (.cons 4 (.all (.cons 1 (.all (.cons 5 (.all (.cons 7 (.take 10 (.all (.cons 8 (.all (.cons 9 (.all (.cons 11 .done .nil)) (.cons 11 (.all (.cons 9 .done .nil)) .nil))) (.cons 11 (.all (.cons 8 (.all (.cons 9 .done .nil)) .nil)) .nil)))) .nil)) .nil)) .nil)) .nil))) .nil))))))) (by kernel_rfl) (by kernel_rfl) ?_
           simp only [go_sem, push_cast, seval]
           repeat' apply And.intro
           all_goals first
            | omega
            | (refine ⟨(Lg.hd ts2).pos, ts2.tail, rfl, rfl, hg2.isT h2, ?_⟩
               rw [hi] at hK
               generalize e3 : Lg.fn (Lg.hd ts2).pos ts2.tail = r at hK hi ⊢
               cases r with
               | error q =>
                 obtain ⟨a, c⟩ := q
                 intro ts' d'
                 simp only [go_sem, push_cast, seval]
                 refine qq0 [] [1000] ?_
                 simp only [go_sem, push_cast, seval]
                 intro vs hvs _
                 match vs, hvs with
                 | [v1, v2, v3, v4, v5], _ =>
                 simp only [go_sem, push_cast, seval]
                 refine ⟨_, _, _, _, _, _, _, rfl, rfl, rfl, _, _, rfl, ?_⟩
                 simp only [rbox, qkf, List.map_cons, List.map_nil, go_sem, push_cast, seval]
                 exact ⟨_, .cons (qzd qqd) (.cons (.rfl _) (.cons (.rfl _) .nil)), hK⟩
               | ok q =>
                 obtain ⟨x, ts3⟩ := q
                 intro hg3
                 have hl3 := Lg.zkj _ _ _ hi
                 have hp := hpay _ _ _ hi
                 simp only [if_pos hl3] at hK
                 simp only [go_sem, push_cast, seval]
                 repeat' apply And.intro
                 all_goals first
                  | omega
                  | (simp only [List.length_append, qzp, List.length_cons, List.length_nil]; done)
                  | (refine ⟨⟨(39, [] ++ [x], ts3), ?_, hg3, ?_, qzg hK (fun _ _ h => h) (fun xs ts' e h => ?_)⟩,
                      ⟨rfl, qza rfl (qza rfl (qza rfl (qza rfl qzb))), qza rfl (qza ?_ (qza rfl (qza rfl qzb))), ?_⟩, hl3⟩
                     · first | exact .inl rfl | exact .inr rfl
                     · show Lg.sizes ([] ++ [x]) + 3 * ts3.length ≤ 6291456
                       rw [qqg]; omega
                     · have h2 : outT Kr ([] ++ x :: xs) := h
                       simpa using h2
                     · show _ = some (Box.mk [_, _, _, _, qx1 39 ([] ++ [x])] _); rw [qqn]; rfl
                     · show subm _ (qjc 39 ([] ++ [x]))
                       refine qq3 ?_
                       first | rfl | (show some (5, 25, _) = _; rw [qji])))
         | cons y acc =>
           simp only [List.length_cons] at hls
           simp only [go_sem, push_cast, seval]
           refine qz7 (.take 0 (.take 2 (.take 3 (.all (.cons 1 (.all (.cons 4 (.all (.cons 5 (.all (.cons 6 (.all (.cons 7 (.take 10 (.all (.cons 8 (.all (.cons 9 (.all (.cons 11 .done .nil)) (.cons 11 (.all (.cons 9 .done .nil)) .nil))) (.cons 11 (.all (.cons 8 (.all (.cons 9 .done .nil)) .nil)) .nil)))) .nil)) .nil)) (.cons 6 (.all (.cons 5 (.all (.cons 7 (.take 10 (.all (.cons 8 (.all (.cons 9 (.all (.cons 11 .done .nil)) (.cons 11 (.all (.cons 9 .done .nil)) .nil))) (.cons 11 (.all (.cons 8 (.all (.cons 9 .done .nil)) .nil)) .nil)))) .nil)) .nil)) .nil))) (.cons 5 (.all (.cons 4 (.all (.cons 6 (.all (.cons 7 (.take 10 (.all (.cons 8 (.all (.cons 9 (.all (.cons 11 .done .nil)) (.cons 11 (.all (.cons 9 .done .nil)) .nil))) (.cons 11 (.all (.cons 8 (.all (.cons 9 .done .nil)) .nil)) .nil)))) .nil)) .nil)) (.cons 6 (.all (.cons 4 (.all (.cons 7 (.take 10 (.all (.cons 8 (.all (.cons 9 (.all (.cons 11 .done .nil)) (.cons 11 (.all (.cons 9 .done .nil)) .nil))) (.cons 11 (.all (.cons 8 (.all (.cons 9 .done .nil)) .nil)) .nil)))) .nil)) .nil)) .nil))) (.cons 6 (.all (.cons 4 (.all (.cons 5 (.all (.cons 7 (.take 10 (.all (.cons 8 (.all (.cons 9 (.all (.cons 11 .done .nil)) (.cons 11 (.all (.cons 9 .done .nil)) .nil))) (.cons 11 (.all (.cons 8 (.all (.cons 9 .done .nil)) .nil)) .nil)))) .nil)) .nil)) (.cons 5 (.all (.cons 4 (.all (.cons 7 (.take 10 (.all (.cons 8 (.all (.cons 9 (.all (.cons 11 .done .nil)) (.cons 11 (.all (.cons 9 .done .nil)) .nil))) (.cons 11 (.all (.cons 8 (.all (.cons 9 .done .nil)) .nil)) .nil)))) .nil)) .nil)) .nil))) .nil)))) (.cons 4 (.all (.cons 1 (.all (.cons 5 (.all (.cons 6 (.all (.cons 7 (.take 10 (.all (.cons 8 (.all (.cons 9 (.all (.cons 11 .done .nil)) (.cons 11 (.all (.cons 9 .done .nil)) .nil))) (.cons 11 (.all (.cons 8 (.all (.cons 9 .done .nil)) .nil)) .nil)))) .nil)) .nil)) (.cons 6 (.all (.cons 5 (.all (.cons 7 (.take 10 (.all (.cons 8 (.all (.cons 9 (.all (.cons 11 .done .nil)) (.cons 11 (.all (.cons 9 .done .nil)) .nil))) (.cons 11 (.all (.cons 8 (.all (.cons 9 .done .nil)) .nil)) .nil)))) .nil)) .nil)) .nil))) (.cons 6 (.all (.cons 1 (.all (.cons 5 (.all (.cons 7 (.take 10 (.all (.cons 8 (.all (.cons 9 (.all (.cons 11 .done .nil)) (.cons 11 (.all (.cons 9 .done .nil)) .nil))) (.cons 11 (.all (.cons 8 (.all (.cons 9 .done .nil)) .nil)) .nil)))) .nil)) .nil)) .nil)) .nil))) (.cons 6 (.all (.cons 1 (.all (.cons 4 (.all (.cons 5 (.all (.cons 7 (.take 10 (.all (.cons 8 (.all (.cons 9 (.all (.cons 11 .done .nil)) (.cons 11 (.all (.cons 9 .done .nil)) .nil))) (.cons 11 (.all (.cons 8 (.all (.cons 9 .done .nil)) .nil)) .nil)))) .nil)) .nil)) (.cons 5 (.all (.cons 4 (.all (.cons 7 (.take 10 (.all (.cons 8 (.all (.cons 9 (.all (.cons 11 .done .nil)) (.cons 11 (.all (.cons 9 .done .nil)) .nil))) (.cons 11 (.all (.cons 8 (.all (.cons 9 .done .nil)) .nil)) .nil)))) .nil)) .nil)) .nil))) (.cons 4 (.all (.cons 1 (.all (.cons 5 (.all (.cons 7 (.take 10 (.all (.cons 8 (.all (.cons 9 (.all (.cons 11 .done .nil)) (.cons 11 (.all (.cons 9 .done .nil)) .nil))) (.cons 11 (.all (.cons 8 (.all (.cons 9 .done .nil)) .nil)) .nil)))) .nil)) .nil)) .nil)) .nil))) .nil))))))) (by kernel_rfl) (by kernel_rfl) ?_
           simp only [go_sem, push_cast, seval]
           repeat' apply And.intro
           all_goals first
            | omega
            | (refine ⟨(Lg.hd ts2).pos, ts2.tail, rfl, rfl, hg2.isT h2, ?_⟩
               rw [hi] at hK
               generalize e3 : Lg.fn (Lg.hd ts2).pos ts2.tail = r at hK hi ⊢
               cases r with
               | error q =>
                 obtain ⟨a, c⟩ := q
                 intro ts' d'
                 simp only [go_sem, push_cast, seval]
                 refine qq0 [] [1000] ?_
                 simp only [go_sem, push_cast, seval]
                 intro vs hvs _
                 match vs, hvs with
                 | [v1, v2, v3, v4, v5], _ =>
                 simp only [go_sem, push_cast, seval]
                 refine ⟨_, _, _, _, _, _, _, rfl, rfl, rfl, _, _, rfl, ?_⟩
                 simp only [rbox, qkf, List.map_cons, List.map_nil, go_sem, push_cast, seval]
                 exact ⟨_, .cons (qzd qqd) (.cons (.rfl _) (.cons (.rfl _) .nil)), hK⟩
               | ok q =>
                 obtain ⟨x, ts3⟩ := q
                 intro hg3
                 have hl3 := Lg.zkj _ _ _ hi
                 have hp := hpay _ _ _ hi
                 simp only [if_pos hl3] at hK
                 simp only [go_sem, push_cast, seval]
                 repeat' apply And.intro
                 all_goals first
                  | omega
                  | (simp only [List.length_append, qzp, List.length_cons, List.length_nil]; done)
                  | (refine ⟨⟨(39, (y :: acc) ++ [x], ts3), ?_, hg3, ?_, qzg hK (fun _ _ h => h) (fun xs ts' e h => ?_)⟩,
                      ⟨rfl, qza rfl (qza rfl (qza rfl (qza rfl qzb))), qza rfl (qza ?_ (qza rfl (qza rfl qzb))), ?_⟩, hl3⟩
                     · first | exact .inl rfl | exact .inr rfl
                     · show Lg.sizes ((y :: acc) ++ [x]) + 3 * ts3.length ≤ 6291456
                       rw [qqg]; omega
                     · have h2 : outT Kr ((y :: acc) ++ x :: xs) := h
                       simpa using h2
                     · show _ = some (Box.mk [_, _, _, _, qx1 39 ((y :: acc) ++ [x])] _); rw [qqn]; rfl
                     · show subm _ (qjc 39 ((y :: acc) ++ [x]))
                       refine qq3 ?_
                       first | rfl | (show some (5, 25, _) = _; rw [qji])))
       · cases acc with
         | nil =>
           simp only [go_sem, push_cast, seval]
           refine qz7 (.take 0 (.take 2 (.take 3 (.all (.cons 1 (.all (.cons 4 (.all (.cons 5 (.all (.cons 6 (.all (.cons 7 (.take 10 (.all (.cons 8 (.all (.cons 9 (.all (.cons 11 .done .nil)) (.cons 11 (.all (.cons 9 .done .nil)) .nil))) (.cons 11 (.all (.cons 8 (.all (.cons 9 .done .nil)) .nil)) .nil)))) .nil)) .nil)) (.cons 6 (.all (.cons 5 (.all (.cons 7 (.take 10 (.all (.cons 8 (.all (.cons 9 (.all (.cons 11 .done .nil)) (.cons 11 (.all (.cons 9 .done .nil)) .nil))) (.cons 11 (.all (.cons 8 (.all (.cons 9 .done .nil)) .nil)) .nil)))) .nil)) .nil)) .nil))) (.cons 5 (.all (.cons 4 (.all (.cons 6 (.all (.cons 7 (.take 10 (.all (.cons 8 (.all (.cons 9 (.all (.cons 11 .done .nil)) (.cons 11 (.all (.cons 9 .done .nil)) .nil))) (.cons 11 (.all (.cons 8 (.all (.cons 9 .done .nil)) .nil)) .nil)))) .nil)) .nil)) (.cons 6 (.all (.cons 4 (.all (.cons 7 (.take 10 (.all (.cons 8 (.all (.cons 9 (.all (.cons 11 .done .nil)) (.cons 11 (.all (.cons 9 .done .nil)) .nil))) (.cons 11 (.all (.cons 8 (.all (.cons 9 .done .nil)) .nil)) .nil)))) .nil)) .nil)) .nil))) (.cons 6 (.all (.cons 4 (.all (.cons 5 (.all (.cons 7 (.take 10 (.all (.cons 8 (.all (.cons 9 (.all (.cons 11 .done .nil)) (.cons 11 (.all (.cons 9 .done .nil)) .nil))) (.cons 11 (.all (.cons 8 (.all (.cons 9 .done .nil)) .nil)) .nil)))) .nil)) .nil)) (.cons 5 (.all (.cons 4 (.all (.cons 7 (.take 10 (.all (.cons 8 (.all (.cons 9 (.all (.cons 11 .done .nil)) (.cons 11 (.all (.cons 9 .done .nil)) .nil))) (.cons 11 (.all (.cons 8 (.all (.cons 9 .done .nil)) .nil)) .nil)))) .nil)) .nil)) .nil))) .nil)))) (.cons 4 (.all (.cons 1 (.all (.cons 5 (.all (.cons 6 (.all (.cons 7 (.take 10 (.all (.cons 8 (.all (.cons 9 (.all (.cons 11 .done .nil)) (.cons 11 (.all (.cons 9 .done .nil)) .nil))) (.cons 11 (.all (.cons 8 (.all (.cons 9 .done .nil)) .nil)) .nil)))) .nil)) .nil)) (.cons 6 (.all (.cons 5 (.all (.cons 7 (.take 10 (.all (.cons 8 (.all (.cons 9 (.all (.cons 11 .done .nil)) (.cons 11 (.all (.cons 9 .done .nil)) .nil))) (.cons 11 (.all (.cons 8 (.all (.cons 9 .done .nil)) .nil)) .nil)))) .nil)) .nil)) .nil))) (.cons 6 (.all (.cons 1 (.all (.cons 5 (.all (.cons 7 (.take 10 (.all (.cons 8 (.all (.cons 9 (.all (.cons 11 .done .nil)) (.cons 11 (.all (.cons 9 .done .nil)) .nil))) (.cons 11 (.all (.cons 8 (.all (.cons 9 .done .nil)) .nil)) .nil)))) .nil)) .nil)) .nil)) .nil))) (.cons 6 (.all (.cons 1 (.all (.cons 4 (.all (.cons 5 (.all (.cons 7 (.take 10 (.all (.cons 8 (.all (.cons 9 (.all (.cons 11 .done .nil)) (.cons 11 (.all (.cons 9 .done .nil)) .nil))) (.cons 11 (.all (.cons 8 (.all (.cons 9 .done .nil)) .nil)) .nil)))) .nil)) .nil)) (.cons 5 (.all (.cons 4 (.all (.cons 7 (.take 10 (.all (.cons 8 (.all (.cons 9 (.all (.cons 11 .done .nil)) (.cons 11 (.all (.cons 9 .done .nil)) .nil))) (.cons 11 (.all (.cons 8 (.all (.cons 9 .done .nil)) .nil)) .nil)))) .nil)) .nil)) .nil))) (.cons 4 (.all (.cons 1 (.all (.cons 5 (.all (.cons 7 (.take 10 (.all (.cons 8 (.all (.cons 9 (.all (.cons 11 .done .nil)) (.cons 11 (.all (.cons 9 .done .nil)) .nil))) (.cons 11 (.all (.cons 8 (.all (.cons 9 .done .nil)) .nil)) .nil)))) .nil)) .nil)) .nil)) .nil))) .nil))))))) (by kernel_rfl) (by kernel_rfl) ?_
           simp only [go_sem, push_cast, seval]
           repeat' apply And.intro
           all_goals first
            | omega
            | (refine ⟨(Lg.hd ts2).pos, ts2.tail, rfl, rfl, hg2.isT h2, ?_⟩
               rw [hi] at hK
               generalize e3 : Lg.fn (Lg.hd ts2).pos ts2.tail = r at hK hi ⊢
               cases r with
               | error q =>
                 obtain ⟨a, c⟩ := q
                 intro ts' d'
                 simp only [go_sem, push_cast, seval]
                 refine qq0 [] [1000] ?_
                 simp only [go_sem, push_cast, seval]
                 intro vs hvs _
                 match vs, hvs with
                 | [v1, v2, v3, v4, v5], _ =>
                 simp only [go_sem, push_cast, seval]
                 refine ⟨_, _, _, _, _, _, _, rfl, rfl, rfl, _, _, rfl, ?_⟩
                 simp only [rbox, qkf, List.map_cons, List.map_nil, go_sem, push_cast, seval]
                 exact ⟨_, .cons (qzd qqd) (.cons (.rfl _) (.cons (.rfl _) .nil)), hK⟩
               | ok q =>
                 obtain ⟨x, ts3⟩ := q
                 intro hg3
                 have hl3 := Lg.zkj _ _ _ hi
                 have hp := hpay _ _ _ hi
                 simp only [if_pos hl3] at hK
                 simp only [go_sem, push_cast, seval]
                 repeat' apply And.intro
                 all_goals first
                  | omega
                  | (simp only [List.length_append, qzp, List.length_cons, List.length_nil]; done)
                  | (refine ⟨⟨(39, [] ++ [x], ts3), ?_, hg3, ?_, qzg hK (fun _ _ h => h) (fun xs ts' e h => ?_)⟩,
                      ⟨rfl, qza rfl (qza rfl (qza rfl (qza rfl qzb))), qza rfl (qza ?_ (qza rfl (qza rfl qzb))), ?_⟩, hl3⟩
                     · first | exact .inl rfl | exact .inr rfl
                     · show Lg.sizes ([] ++ [x]) + 3 * ts3.length ≤ 6291456
                       rw [qqg]; omega
                     · have h2 : outT Kr ([] ++ x :: xs) := h
                       simpa using h2
                     · show _ = some (Box.mk [_, _, _, _, qx1 39 ([] ++ [x])] _); rw [qqn]; rfl
                     · show subm _ (qjc 39 ([] ++ [x]))
                       refine qq3 ?_
                       first | rfl | (show some (5, 25, _) = _; rw [qji])))
         | cons y acc =>
           simp only [List.length_cons] at hls
           simp only [go_sem, push_cast, seval]
           refine qz7 (.take 0 (.take 2 (.take 3 (.all (.cons 1 (.all (.cons 4 (.all (.cons 5 (.all (.cons 6 (.all (.cons 7 (.take 10 (.all (.cons 8 (.all (.cons 9 (.all (.cons 11 .done .nil)) (.cons 11 (.all (.cons 9 .done .nil)) .nil))) (.cons 11 (.all (.cons 8 (.all (.cons 9 .done .nil)) .nil)) .nil)))) .nil)) .nil)) (.cons 6 (.all (.cons 5 (.all (.cons 7 (.take 10 (.all (.cons 8 (.all (.cons 9 (.all (.cons 11 .done .nil)) (.cons 11 (.all (.cons 9 .done .nil)) .nil))) (.cons 11 (.all (.cons 8 (.all (.cons 9 .done .nil)) .nil)) .nil)))) .nil)) .nil)) .nil))) (.cons 5 (.all (.cons 4 (.all (.cons 6 (.all (.cons 7 (.take 10 (.all (.cons 8 (.all (.cons 9 (.all (.cons 11 .done .nil)) (.cons 11 (.all (.cons 9 .done .nil)) .nil))) (.cons 11 (.all (.cons 8 (.all (.cons 9 .done .nil)) .nil)) .nil)))) .nil)) .nil)) (.cons 6 (.all (.cons 4 (.all (.cons 7 (.take 10 (.all (.cons 8 (.all (.cons 9 (.all (.cons 11 .done .nil)) (.cons 11 (.all (.cons 9 .done .nil)) .nil))) (.cons 11 (.all (.cons 8 (.all (.cons 9 .done .nil)) .nil)) .nil)))) .nil)) .nil)) .nil))) (.cons 6 (.all (.cons 4 (.all (.cons 5 (.all (.cons 7 (.take 10 (.all (.cons 8 (.all (.cons 9 (.all (.cons 11 .done .nil)) (.cons 11 (.all (.cons 9 .done .nil)) .nil))) (.cons 11 (.all (.cons 8 (.all (.cons 9 .done .nil)) .nil)) .nil)))) .nil)) .nil)) (.cons 5 (.all (.cons 4 (.all (.cons 7 (.take 10 (.all (.cons 8 (.all (.cons 9 (.all (.cons 11 .done .nil)) (.cons 11 (.all (.cons 9 .done .nil)) .nil))) (.cons 11 (.all (.cons 8 (.all (.cons 9 .done .nil)) .nil)) .nil)))) .nil)) .nil)) .nil))) .nil)))) (.cons 4 (.all (.cons 1 (.all (.cons 5 (.all (.cons 6 (.all (.cons 7 (.take 10 (.all (.cons 8 (.all (.cons 9 (.all (.cons 11 .done .nil)) (.cons 11 (.all (.cons 9 .done .nil)) .nil))) (.cons 11 (.all (.cons 8 (.all (.cons 9 .done .nil)) .nil)) .nil)))) .nil)) .nil)) (.cons 6 (.all (.cons 5 (.all (.cons 7 (.take 10 (.all (.cons 8 (.all (.cons 9 (.all (.cons 11 .done .nil)) (.cons 11 (.all (.cons 9 .done .nil)) .nil))) (.cons 11 (.all (.cons 8 (.all (.cons 9 .done .nil)) .nil)) .nil)))) .nil)) .nil)) .nil))) (.cons 6 (.all (.cons 1 (.all (.cons 5 (.all (.cons 7 (.take 10 (.all (.cons 8 (.all (.cons 9 (.all (.cons 11 .done .nil)) (.cons 11 (.all (.cons 9 .done .nil)) .nil))) (.cons 11 (.all (.cons 8 (.all (.cons 9 .done .nil)) .nil)) .nil)))) .nil)) .nil)) .nil)) .nil))) (.cons 6 (.all (.cons 1 (.all (.cons 4 (.all (.cons 5 (.all (.cons 7 (.take 10 (.all (.cons 8 (.all (.cons 9 (.all (.cons 11 .done .nil)) (.cons 11 (.all (.cons 9 .done .nil)) .nil))) (.cons 11 (.all (.cons 8 (.all (.cons 9 .done .nil)) .nil)) .nil)))) .nil)) .nil)) (.cons 5 (.all (.cons 4 (.all (.cons 7 (.take 10 (.all (.cons 8 (.all (.cons 9 (.all (.cons 11 .done .nil)) (.cons 11 (.all (.cons 9 .done .nil)) .nil))) (.cons 11 (.all (.cons 8 (.all (.cons 9 .done .nil)) .nil)) .nil)))) .nil)) .nil)) .nil))) (.cons 4 (.all (.cons 1 (.all (.cons 5 (.all (.cons 7 (.take 10 (.all (.cons 8 (.all (.cons 9 (.all (.cons 11 .done .nil)) (.cons 11 (.all (.cons 9 .done .nil)) .nil))) (.cons 11 (.all (.cons 8 (.all (.cons 9 .done .nil)) .nil)) .nil)))) .nil)) .nil)) .nil)) .nil))) .nil))))))) (by kernel_rfl) (by kernel_rfl) ?_
           simp only [go_sem, push_cast, seval]
           repeat' apply And.intro
           all_goals first
            | omega
            | (refine ⟨(Lg.hd ts2).pos, ts2.tail, rfl, rfl, hg2.isT h2, ?_⟩
               rw [hi] at hK
               generalize e3 : Lg.fn (Lg.hd ts2).pos ts2.tail = r at hK hi ⊢
               cases r with
               | error q =>
                 obtain ⟨a, c⟩ := q
                 intro ts' d'
                 simp only [go_sem, push_cast, seval]
                 refine qq0 [] [1000] ?_
                 simp only [go_sem, push_cast, seval]
                 intro vs hvs _
                 match vs, hvs with
                 | [v1, v2, v3, v4, v5], _ =>
                 simp only [go_sem, push_cast, seval]
                 refine ⟨_, _, _, _, _, _, _, rfl, rfl, rfl, _, _, rfl, ?_⟩
                 simp only [rbox, qkf, List.map_cons, List.map_nil, go_sem, push_cast, seval]
                 exact ⟨_, .cons (qzd qqd) (.cons (.rfl _) (.cons (.rfl _) .nil)), hK⟩
               | ok q =>
                 obtain ⟨x, ts3⟩ := q
                 intro hg3
                 have hl3 := Lg.zkj _ _ _ hi
                 have hp := hpay _ _ _ hi
                 simp only [if_pos hl3] at hK
                 simp only [go_sem, push_cast, seval]
                 repeat' apply And.intro
                 all_goals first
                  | omega
                  | (simp only [List.length_append, qzp, List.length_cons, List.length_nil]; done)
                  | (refine ⟨⟨(51, (y :: acc) ++ [x], ts3), ?_, hg3, ?_, qzg hK (fun _ _ h => h) (fun xs ts' e h => ?_)⟩,
                      ⟨rfl, qza rfl (qza rfl (qza rfl (qza rfl qzb))), qza rfl (qza ?_ (qza rfl (qza rfl qzb))), ?_⟩, hl3⟩
                     · first | exact .inl rfl | exact .inr rfl
                     · show Lg.sizes ((y :: acc) ++ [x]) + 3 * ts3.length ≤ 6291456
                       rw [qqg]; omega
                     · have h2 : outT Kr ((y :: acc) ++ x :: xs) := h
                       simpa using h2
                     · show _ = some (Box.mk [_, _, _, _, qx1 51 ((y :: acc) ++ [x])] _); rw [qqn]; rfl
                     · show subm _ (qjc 51 ((y :: acc) ++ [x]))
                       refine qq3 ?_
                       first | rfl | (show some (5, 25, _) = _; rw [qji])))
     · skip
       rcases hd with rfl | rfl
       · cases acc with
         | nil =>
           simp only [go_sem, push_cast, seval]
           refine ⟨Lg.sType, ts2, 0, rfl, rfl, hg2, ?_⟩
           have hi0 : Lg.item ts2 = Lg.bnd (Lg.must Lg.sType ts2) fun _ ts' => Lg.typ (Lg.hd ts2).pos ts' := by unfold Lg.item; rw [if_neg (qzf h2)]
           rw [hi0] at hK
           generalize e4 : Lg.must Lg.sType ts2 = r4 at hK hi0 ⊢
           cases r4 with
           | error q =>
             obtain ⟨a, c⟩ := q
             intro ts' d'
             simp only [go_sem, push_cast, seval]
             refine qq0 [] [1000] ?_
             simp only [go_sem, push_cast, seval]
             intro vs hvs _
             match vs, hvs with
             | [v1, v2, v3, v4, v5], _ =>
             simp only [go_sem, push_cast, seval]
             refine ⟨_, _, _, _, _, _, _, rfl, rfl, rfl, _, _, rfl, ?_⟩
             simp only [rbox, qkf, List.map_cons, List.map_nil, go_sem, push_cast, seval]
             exact ⟨_, .cons (qzd qqd) (.cons (.rfl _) (.cons (.rfl _) .nil)), hK⟩
           | ok q =>
           obtain ⟨x0, ts4⟩ := q
           intro hg4
           have hi : Lg.item ts2 = Lg.typ (Lg.hd ts2).pos ts4 := hi0
           simp only [go_sem, push_cast, seval]
           refine qz7 (.take 0 (.take 2 (.take 3 (.all (.cons 1 (.all (.cons 4 (.all (.cons 5 (.all (.cons 6 (.all (.cons 7 (.take 10 (.all (.cons 8 (.all (.cons 9 (.all (.cons 11 .done .nil)) (.cons 11 (.all (.cons 9 .done .nil)) .nil))) (.cons 11 (.all (.cons 8 (.all (.cons 9 .done .nil)) .nil)) .nil)))) .nil)) .nil)) (.cons 6 (.all (.cons 5 (.all (.cons 7 (.take 10 (.all (.cons 8 (.all (.cons 9 (.all (.cons 11 .done .nil)) (.cons 11 (.all (.cons 9 .done .nil)) .nil))) (.cons 11 (.all (.cons 8 (.all (.cons 9 .done .nil)) .nil)) .nil)))) .nil)) .nil)) .nil))) (.cons 5 (.all (.cons 4 (.all (.cons 6 (.all (.cons 7 (.take 10 (.all (.cons 8 (.all (.cons 9 (.all (.cons 11 .done .nil)) (.cons 11 (.all (.cons 9 .done .nil)) .nil))) (.cons 11 (.all (.cons 8 (.all (.cons 9 .done .nil)) .nil)) .nil)))) .nil)) .nil)) (.cons 6 (.all (.cons 4 (.all (.cons 7 (.take 10 (.all (.cons 8 (.all (.cons 9 (.all (.cons 11 .done .nil)) (.cons 11 (.all (.cons 9 .done .nil)) .nil))) (.cons 11 (.all (.cons 8 (.all (.cons 9 .done .nil)) .nil)) .nil)))) .nil)) .nil)) .nil))) (.cons 6 (.all (.cons 4 (.all (.cons 5 (.all (.cons 7 (.take 10 (.all (.cons 8 (.all (.cons 9 (.all (.cons 11 .done .nil)) (.cons 11 (.all (.cons 9 .done .nil)) .nil))) (.cons 11 (.all (.cons 8 (.all (.cons 9 .done .nil)) .nil)) .nil)))) .nil)) .nil)) (.cons 5 (.all (.cons 4 (.all (.cons 7 (.take 10 (.all (.cons 8 (.all (.cons 9 (.all (.cons 11 .done .nil)) (.cons 11 (.all (.cons 9 .done .nil)) .nil))) (.cons 11 (.all (.cons 8 (.all (.cons 9 .done .nil)) .nil)) .nil)))) .nil)) .nil)) .nil))) .nil)))) (.cons 4 (.all (.cons 1 (.all (.cons 5 (.all (.cons 6 (.all (.cons 7 (.take 10 (.all (.cons 8 (.all (.cons 9 (.all (.cons 11 .done .nil)) (.cons 11 (.all (.cons 9 .done .nil)) .nil))) (.cons 11 (.all (.cons 8 (.all (.cons 9 .done .nil)) .nil)) .nil)))) .nil)) .nil)) (.cons 6 (.all (.cons 5 (.all (.cons 7 (.take 10 (.all (.cons 8 (.all (.cons 9 (.all (.cons 11 .done .nil)) (.cons 11 (.all (.cons 9 .done .nil)) .nil))) (.cons 11 (.all (.cons 8 (.all (.cons 9 .done .nil)) .nil)) .nil)))) .nil)) .nil)) .nil))) (.cons 6 (.all (.cons 1 (.all (.cons 5 (.all (.cons 7 (.take 10 (.all (.cons 8 (.all (.cons 9 (.all (.cons 11 .done .nil)) (.cons 11 (.all (.cons 9 .done .nil)) .nil))) (.cons 11 (.all (.cons 8 (.all (.cons 9 .done .nil)) .nil)) .nil)))) .nil)) .nil)) .nil)) .nil))) (.cons 6 (.all (.cons 1 (.all (.cons 4 (.all (.cons 5 (.all (.cons 7 (.take 10 (.all (.cons 8 (.all (.cons 9 (.all (.cons 11 .done .nil)) (.cons 11 (.all (.cons 9 .done .nil)) .nil))) (.cons 11 (.all (.cons 8 (.all (.cons 9 .done .nil)) .nil)) .nil)))) .nil)) .nil)) (.cons 5 (.all (.cons 4 (.all (.cons 7 (.take 10 (.all (.cons 8 (.all (.cons 9 (.all (.cons 11 .done .nil)) (.cons 11 (.all (.cons 9 .done .nil)) .nil))) (.cons 11 (.all (.cons 8 (.all (.cons 9 .done .nil)) .nil)) .nil)))) .nil)) .nil)) .nil))) (.cons 4 (.all (.cons 1 (.all (.cons 5 (.all (.cons 7 (.take 10 (.all (.cons 8 (.all (.cons 9 (.all (.cons 11 .done .nil)) (.cons 11 (.all (.cons 9 .done .nil)) .nil))) (.cons 11 (.all (.cons 8 (.all (.cons 9 .done .nil)) .nil)) .nil)))) .nil)) .nil)) .nil)) .nil))) .nil))))))) (by kernel_rfl) (by kernel_rfl) ?_
           simp only [go_sem, push_cast, seval]
           repeat' apply And.intro
           all_goals first
            | omega
            | (refine ⟨(Lg.hd ts2).pos, ts4, 0, rfl, rfl, hg4, ?_⟩
               rw [qkv] at hK
               generalize e3 : Lg.typ (Lg.hd ts2).pos ts4 = r at hK hi ⊢
               cases r with
               | error q =>
                 obtain ⟨a, c⟩ := q
                 intro ts' d'
                 simp only [go_sem, push_cast, seval]
                 refine qq0 [] [1000] ?_
                 simp only [go_sem, push_cast, seval]
                 intro vs hvs _
                 match vs, hvs with
                 | [v1, v2, v3, v4, v5], _ =>
                 simp only [go_sem, push_cast, seval]
                 refine ⟨_, _, _, _, _, _, _, rfl, rfl, rfl, _, _, rfl, ?_⟩
                 simp only [rbox, qkf, List.map_cons, List.map_nil, go_sem, push_cast, seval]
                 exact ⟨_, .cons (qzd qqd) (.cons (.rfl _) (.cons (.rfl _) .nil)), hK⟩
               | ok q =>
                 obtain ⟨x, ts3⟩ := q
                 intro hg3
                 have hl3 := Lg.zkj _ _ _ hi
                 have hp := hpay _ _ _ hi
                 simp only [if_pos hl3] at hK
                 simp only [go_sem, push_cast, seval]
                 repeat' apply And.intro
                 all_goals first
                  | omega
                  | (simp only [List.length_append, qzp, List.length_cons, List.length_nil]; done)
                  | (refine ⟨⟨(51, [] ++ [x], ts3), ?_, hg3, ?_, qzg hK (fun _ _ h => h) (fun xs ts' e h => ?_)⟩,
                      ⟨rfl, qza rfl (qza rfl (qza rfl (qza rfl qzb))), qza rfl (qza ?_ (qza rfl (qza rfl qzb))), ?_⟩, hl3⟩
                     · first | exact .inl rfl | exact .inr rfl
                     · show Lg.sizes ([] ++ [x]) + 3 * ts3.length ≤ 6291456
                       rw [qqg]; omega
                     · have h2 : outT Kr ([] ++ x :: xs) := h
                       simpa using h2
                     · show _ = some (Box.mk [_, _, _, _, qx1 51 ([] ++ [x])] _); rw [qqn]; rfl
                     · show subm _ (qjc 51 ([] ++ [x]))
                       refine qq3 ?_
                       first | rfl | (show some (5, 25, _) = _; rw [qji])))
         | cons y acc =>
           simp only [List.length_cons] at hls
           simp only [go_sem, push_cast, seval]
           refine ⟨Lg.sType, ts2, 0, rfl, rfl, hg2, ?_⟩
           have hi0 : Lg.item ts2 = Lg.bnd (Lg.must Lg.sType ts2) fun _ ts' => Lg.typ (Lg.hd ts2).pos ts' := by unfold Lg.item; rw [if_neg (qzf h2)]
           rw [hi0] at hK
           generalize e4 : Lg.must Lg.sType ts2 = r4 at hK hi0 ⊢
           cases r4 with
           | error q =>
             obtain ⟨a, c⟩ := q
             intro ts' d'
             simp only [go_sem, push_cast, seval]
             refine qq0 [] [1000] ?_
             simp only [go_sem, push_cast, seval]
             intro vs hvs _
             match vs, hvs with
             | [v1, v2, v3, v4, v5], _ =>
             simp only [go_sem, push_cast, seval]
             refine ⟨_, _, _, _, _, _, _, rfl, rfl, rfl, _, _, rfl, ?_⟩
             simp only [rbox, qkf, List.map_cons, List.map_nil, go_sem, push_cast, seval]
             exact ⟨_, .cons (qzd qqd) (.cons (.rfl _) (.cons (.rfl _) .nil)), hK⟩
           | ok q =>
           obtain ⟨x0, ts4⟩ := q
           intro hg4
           have hi : Lg.item ts2 = Lg.typ (Lg.hd ts2).pos ts4 := hi0
           simp only [go_sem, push_cast, seval]
           refine qz7 (.take 0 (.take 2 (.take 3 (.all (.cons 1 (.all (.cons 4 (.all (.cons 5 (.all (.cons 6 (.all (.cons 7 (.take 10 (.all (.cons 8 (.all (.cons 9 (.all (.cons 11 .done .nil)) (.cons 11 (.all (.cons 9 .done .nil)) .nil))) (.cons 11 (.all (.cons 8 (.all (.cons 9 .done .nil)) .nil)) .nil)))) .nil)) .nil)) (.cons 6 (.all (.cons 5 (.all (.cons 7 (.take 10 (.all (.cons 8 (.all (.cons 9 (.all (.cons 11 .done .nil)) (.cons 11 (.all (.cons 9 .done .nil)) .nil))) (.cons 11 (.all (.cons 8 (.all (.cons 9 .done .nil)) .nil)) .nil)))) .nil)) .nil)) .nil))) (.cons 5 (.all (.cons 4 (.all (.cons 6 (.all (.cons 7 (.take 10 (.all (.cons 8 (.all (.cons 9 (.all (.cons 11 .done .nil)) (.cons 11 (.all (.cons 9 .done .nil)) .nil))) (.cons 11 (.all (.cons 8 (.all (.cons 9 .done .nil)) .nil)) .nil)))) .nil)) .nil)) (.cons 6 (.all (.cons 4 (.all (.cons 7 (.take 10 (.all (.cons 8 (.all (.cons 9 (.all (.cons 11 .done .nil)) (.cons 11 (.all (.cons 9 .done .nil)) .nil))) (.cons 11 (.all (.cons 8 (.all (.cons 9 .done .nil)) .nil)) .nil)))) .nil)) .nil)) .nil))) (.cons 6 (.all (.cons 4 (.all (.cons 5 (.all (.cons 7 (.take 10 (.all (.cons 8 (.all (.cons 9 (.all (.cons 11 .done .nil)) (.cons 11 (.all (.cons 9 .done .nil)) .nil))) (.cons 11 (.all (.cons 8 (.all (.cons 9 .done .nil)) .nil)) .nil)))) .nil)) .nil)) (.cons 5 (.all (.cons 4 (.all (.cons 7 (.take 10 (.all (.cons 8 (.all (.cons 9 (.all (.cons 11 .done .nil)) (.cons 11 (.all (.cons 9 .done .nil)) .nil))) (.cons 11 (.all (.cons 8 (.all (.cons 9 .done .nil)) .nil)) .nil)))) .nil)) .nil)) .nil))) .nil)))) (.cons 4 (.all (.cons 1 (.all (.cons 5 (.all (.cons 6 (.all (.cons 7 (.take 10 (.all (.cons 8 (.all (.cons 9 (.all (.cons 11 .done .nil)) (.cons 11 (.all (.cons 9 .done .nil)) .nil))) (.cons 11 (.all (.cons 8 (.all (.cons 9 .done .nil)) .nil)) .nil)))) .nil)) .nil)) (.cons 6 (.all (.cons 5 (.all (.cons 7 (.take 10 (.all (.cons 8 (.all (.cons 9 (.all (.cons 11 .done .nil)) (.cons 11 (.all (.cons 9 .done .nil)) .nil))) (.cons 11 (.all (.cons 8 (.all (.cons 9 .done .nil)) .nil)) .nil)))) .nil)) .nil)) .nil))) (.cons 6 (.all (.cons 1 (.all (.cons 5 (.all (.cons 7 (.take 10 (.all (.cons 8 (.all (.cons 9 (.all (.cons 11 .done .nil)) (.cons 11 (.all (.cons 9 .done .nil)) .nil))) (.cons 11 (.all (.cons 8 (.all (.cons 9 .done .nil)) .nil)) .nil)))) .nil)) .nil)) .nil)) .nil))) (.cons 6 (.all (.cons 1 (.all (.cons 4 (.all (.cons 5 (.all (.cons 7 (.take 10 (.all (.cons 8 (.all (.cons 9 (.all (.cons 11 .done .nil)) (.cons 11 (.all (.cons 9 .done .nil)) .nil))) (.cons 11 (.all (.cons 8 (.all (.cons 9 .done .nil)) .nil)) .nil)))) .nil)) .nil)) (.cons 5 (.all (.cons 4 (.all (.cons 7 (.take 10 (.all (.cons 8 (.all (.cons 9 (.all (.cons 11 .done .nil)) (.cons 11 (.all (.cons 9 .done .nil)) .nil))) (.cons 11 (.all (.cons 8 (.all (.cons 9 .done .nil)) .nil)) .nil)))) .nil)) .nil)) .nil))) (.cons 4 (.all (.cons 1 (.all (.cons 5 (.all (.cons 7 (.take 10 (.all (.cons 8 (.all (.cons 9 (.all (.cons 11 .done .nil)) (.cons 11 (.all (.cons 9 .done .nil)) .nil))) (.cons 11 (.all (.cons 8 (.all (.cons 9 .done .nil)) .nil)) .nil)))) .nil)) .nil)) .nil)) .nil))) .nil))))))) (by kernel_rfl) (by kernel_rfl) ?_
           simp only [go_sem, push_cast, seval]
           repeat' apply And.intro
           all_goals first
            | omega
            | (refine ⟨(Lg.hd ts2).pos, ts4, 0, rfl, rfl, hg4, ?_⟩
               rw [qkv] at hK
               generalize e3 : Lg.typ (Lg.hd ts2).pos ts4 = r at hK hi ⊢
               cases r with
               | error q =>
                 obtain ⟨a, c⟩ := q
                 intro ts' d'
                 simp only [go_sem, push_cast, seval]
                 refine qq0 [] [1000] ?_
                 simp only [go_sem, push_cast, seval]
                 intro vs hvs _
                 match vs, hvs with
                 | [v1, v2, v3, v4, v5], _ =>
                 simp only [go_sem, push_cast, seval]
                 refine ⟨_, _, _, _, _, _, _, rfl, rfl, rfl, _, _, rfl, ?_⟩
                 simp only [rbox, qkf, List.map_cons, List.map_nil, go_sem, push_cast, seval]
                 exact ⟨_, .cons (qzd qqd) (.cons (.rfl _) (.cons (.rfl _) .nil)), hK⟩
               | ok q =>
                 obtain ⟨x, ts3⟩ := q
                 intro hg3
                 have hl3 := Lg.zkj _ _ _ hi
                 have hp := hpay _ _ _ hi
                 simp only [if_pos hl3] at hK
                 simp only [go_sem, push_cast, seval]
                 repeat' apply And.intro
                 all_goals first
                  | omega
                  | (simp only [List.length_append, qzp, List.length_cons, List.length_nil]; done)
                  | (refine ⟨⟨(39, (y :: acc) ++ [x], ts3), ?_, hg3, ?_, qzg hK (fun _ _ h => h) (fun xs ts' e h => ?_)⟩,
                      ⟨rfl, qza rfl (qza rfl (qza rfl (qza rfl qzb))), qza rfl (qza ?_ (qza rfl (qza rfl qzb))), ?_⟩, hl3⟩
                     · first | exact .inl rfl | exact .inr rfl
                     · show Lg.sizes ((y :: acc) ++ [x]) + 3 * ts3.length ≤ 6291456
                       rw [qqg]; omega
                     · have h2 : outT Kr ((y :: acc) ++ x :: xs) := h
                       simpa using h2
                     · show _ = some (Box.mk [_, _, _, _, qx1 39 ((y :: acc) ++ [x])] _); rw [qqn]; rfl
                     · show subm _ (qjc 39 ((y :: acc) ++ [x]))
                       refine qq3 ?_
                       first | rfl | (show some (5, 25, _) = _; rw [qji])))
       · cases acc with
         | nil =>
           simp only [go_sem, push_cast, seval]
           refine ⟨Lg.sType, ts2, 0, rfl, rfl, hg2, ?_⟩
           have hi0 : Lg.item ts2 = Lg.bnd (Lg.must Lg.sType ts2) fun _ ts' => Lg.typ (Lg.hd ts2).pos ts' := by unfold Lg.item; rw [if_neg (qzf h2)]
           rw [hi0] at hK
           generalize e4 : Lg.must Lg.sType ts2 = r4 at hK hi0 ⊢
           cases r4 with
           | error q =>
             obtain ⟨a, c⟩ := q
             intro ts' d'
             simp only [go_sem, push_cast, seval]
             refine qq0 [] [1000] ?_
             simp only [go_sem, push_cast, seval]
             intro vs hvs _
             match vs, hvs with
             | [v1, v2, v3, v4, v5], _ =>
             simp only [go_sem, push_cast, seval]
             refine ⟨_, _, _, _, _, _, _, rfl, rfl, rfl, _, _, rfl, ?_⟩
             simp only [rbox, qkf, List.map_cons, List.map_nil, go_sem, push_cast, seval]
             exact ⟨_, .cons (qzd qqd) (.cons (.rfl _) (.cons (.rfl _) .nil)), hK⟩
           | ok q =>
           obtain ⟨x0, ts4⟩ := q
           intro hg4
           have hi : Lg.item ts2 = Lg.typ (Lg.hd ts2).pos ts4 := hi0
           simp only [go_sem, push_cast, seval]
           refine qz7 (.take 0 (.take 2 (.take 3 (.all (.cons 1 (.all (.cons 4 (.all (.cons 5 (.all (.cons 6 (.all (.cons 7 (.take 10 (.all (.cons 8 (.all (.cons 9 (.all (.cons 11 .done .nil)) (.cons 11 (.all (.cons 9 .done .nil)) .nil))) (.cons 11 (.all (.cons 8 (.all (.cons 9 .done .nil)) .nil)) .nil)))) .nil)) .nil)) (.cons 6 (.all (.cons 5 (.all (.cons 7 (.take 10 (.all (.cons 8 (.all (.cons 9 (.all (.cons 11 .done .nil)) (.cons 11 (.all (.cons 9 .done .nil)) .nil))) (.cons 11 (.all (.cons 8 (.all (.cons 9 .done .nil)) .nil)) .nil)))) .nil)) .nil)) .nil))) (.cons 5 (.all (.cons 4 (.all (.cons 6 (.all (.cons 7 (.take 10 (.all (.cons 8 (.all (.cons 9 (.all (.cons 11 .done .nil)) (.cons 11 (.all (.cons 9 .done .nil)) .nil))) (.cons 11 (.all (.cons 8 (.all (.cons 9 .done .nil)) .nil)) .nil)))) .nil)) .nil)) (.cons 6 (.all (.cons 4 (.all (.cons 7 (.take 10 (.all (.cons 8 (.all (.cons 9 (.all (.cons 11 .done .nil)) (.cons 11 (.all (.cons 9 .done .nil)) .nil))) (.cons 11 (.all (.cons 8 (.all (.cons 9 .done .nil)) .nil)) .nil)))) .nil)) .nil)) .nil))) (.cons 6 (.all (.cons 4 (.all (.cons 5 (.all (.cons 7 (.take 10 (.all (.cons 8 (.all (.cons 9 (.all (.cons 11 .done .nil)) (.cons 11 (.all (.cons 9 .done .nil)) .nil))) (.cons 11 (.all (.cons 8 (.all (.cons 9 .done .nil)) .nil)) .nil)))) .nil)) .nil)) (.cons 5 (.all (.cons 4 (.all (.cons 7 (.take 10 (.all (.cons 8 (.all (.cons 9 (.all (.cons 11 .done .nil)) (.cons 11 (.all (.cons 9 .done .nil)) .nil))) (.cons 11 (.all (.cons 8 (.all (.cons 9 .done .nil)) .nil)) .nil)))) .nil)) .nil)) .nil))) .nil)))) (.cons 4 (.all (.cons 1 (.all (.cons 5 (.all (.cons 6 (.all (.cons 7 (.take 10 (.all (.cons 8 (.all (.cons 9 (.all (.cons 11 .done .nil)) (.cons 11 (.all (.cons 9 .done .nil)) .nil))) (.cons 11 (.all (.cons 8 (.all (.cons 9 .done .nil)) .nil)) .nil)))) .nil)) .nil)) (.cons 6 (.all (.cons 5 (.all (.cons 7 (.take 10 (.all (.cons 8 (.all (.cons 9 (.all (.cons 11 .done .nil)) (.cons 11 (.all (.cons 9 .done .nil)) .nil))) (.cons 11 (.all (.cons 8 (.all (.cons 9 .done .nil)) .nil)) .nil)))) .nil)) .nil)) .nil))) (.cons 6 (.all (.cons 1 (.all (.cons 5 (.all (.cons 7 (.take 10 (.all (.cons 8 (.all (.cons 9 (.all (.cons 11 .done .nil)) (.cons 11 (.all (.cons 9 .done .nil)) .nil))) (.cons 11 (.all (.cons 8 (.all (.cons 9 .done .nil)) .nil)) .nil)))) .nil)) .nil)) .nil)) .nil))) (.cons 6 (.all (.cons 1 (.all (.cons 4 (.all (.cons 5 (.all (.cons 7 (.take 10 (.all (.cons 8 (.all (.cons 9 (.all (.cons 11 .done .nil)) (.cons 11 (.all (.cons 9 .done .nil)) .nil))) (.cons 11 (.all (.cons 8 (.all (.cons 9 .done .nil)) .nil)) .nil)))) .nil)) .nil)) (.cons 5 (.all (.cons 4 (.all (.cons 7 (.take 10 (.all (.cons 8 (.all (.cons 9 (.all (.cons 11 .done .nil)) (.cons 11 (.all (.cons 9 .done .nil)) .nil))) (.cons 11 (.all (.cons 8 (.all (.cons 9 .done .nil)) .nil)) .nil)))) .nil)) .nil)) .nil))) (.cons 4 (.all (.cons 1 (.all (.cons 5 (.all (.cons 7 (.take 10 (.all (.cons 8 (.all (.cons 9 (.all (.cons 11 .done .nil)) (.cons 11 (.all (.cons 9 .done .nil)) .nil))) (.cons 11 (.all (.cons 8 (.all (.cons 9 .done .nil)) .nil)) .nil)))) .nil)) .nil)) .nil)) .nil))) .nil))))))) (by kernel_rfl) (by kernel_rfl) ?_
           simp only [go_sem, push_cast, seval]
           repeat' apply And.intro
           all_goals first
            | omega
            | (refine ⟨(Lg.hd ts2).pos, ts4, 0, rfl, rfl, hg4, ?_⟩
               rw [qkv] at hK
               generalize e3 : Lg.typ (Lg.hd ts2).pos ts4 = r at hK hi ⊢
               cases r with
               | error q =>
                 obtain ⟨a, c⟩ := q
                 intro ts' d'
                 simp only [go_sem, push_cast, seval]
                 refine qq0 [] [1000] ?_
                 simp only [go_sem, push_cast, seval]
                 intro vs hvs _
                 match vs, hvs with
                 | [v1, v2, v3, v4, v5], _ =>
                 simp only [go_sem, push_cast, seval]
                 refine ⟨_, _, _, _, _, _, _, rfl, rfl, rfl, _, _, rfl, ?_⟩
                 simp only [rbox, qkf, List.map_cons, List.map_nil, go_sem, push_cast, seval]
                 exact ⟨_, .cons (qzd qqd) (.cons (.rfl _) (.cons (.rfl _) .nil)), hK⟩
               | ok q =>
                 obtain ⟨x, ts3⟩ := q
                 intro hg3
                 have hl3 := Lg.zkj _ _ _ hi
                 have hp := hpay _ _ _ hi
                 simp only [if_pos hl3] at hK
                 simp only [go_sem, push_cast, seval]
                 repeat' apply And.intro
                 all_goals first
                  | omega
                  | (simp only [List.length_append, qzp, List.length_cons, List.length_nil]; done)
                  | (refine ⟨⟨(51, [] ++ [x], ts3), ?_, hg3, ?_, qzg hK (fun _ _ h => h) (fun xs ts' e h => ?_)⟩,
                      ⟨rfl, qza rfl (qza rfl (qza rfl (qza rfl qzb))), qza rfl (qza ?_ (qza rfl (qza rfl qzb))), ?_⟩, hl3⟩
                     · first | exact .inl rfl | exact .inr rfl
                     · show Lg.sizes ([] ++ [x]) + 3 * ts3.length ≤ 6291456
                       rw [qqg]; omega
                     · have h2 : outT Kr ([] ++ x :: xs) := h
                       simpa using h2
                     · show _ = some (Box.mk [_, _, _, _, qx1 51 ([] ++ [x])] _); rw [qqn]; rfl
                     · show subm _ (qjc 51 ([] ++ [x]))
                       refine qq3 ?_
                       first | rfl | (show some (5, 25, _) = _; rw [qji])))
         | cons y acc =>
           simp only [List.length_cons] at hls
           simp only [go_sem, push_cast, seval]
           refine ⟨Lg.sType, ts2, 0, rfl, rfl, hg2, ?_⟩
           have hi0 : Lg.item ts2 = Lg.bnd (Lg.must Lg.sType ts2) fun _ ts' => Lg.typ (Lg.hd ts2).pos ts' := by unfold Lg.item; rw [if_neg (qzf h2)]
           rw [hi0] at hK
           generalize e4 : Lg.must Lg.sType ts2 = r4 at hK hi0 ⊢
           cases r4 with
           | error q =>
             obtain ⟨a, c⟩ := q
             intro ts' d'
             simp only [go_sem, push_cast, seval]
             refine qq0 [] [1000] ?_
             simp only [go_sem, push_cast, seval]
             intro vs hvs _
             match vs, hvs with
             | [v1, v2, v3, v4, v5], _ =>
             simp only [go_sem, push_cast, seval]
             refine ⟨_, _, _, _, _, _, _, rfl, rfl, rfl, _, _, rfl, ?_⟩
             simp only [rbox, qkf, List.map_cons, List.map_nil, go_sem, push_cast, seval]
             exact ⟨_, .cons (qzd qqd) (.cons (.rfl _) (.cons (.rfl _) .nil)), hK⟩
           | ok q =>
           obtain ⟨x0, ts4⟩ := q
           intro hg4
           have hi : Lg.item ts2 = Lg.typ (Lg.hd ts2).pos ts4 := hi0
           simp only [go_sem, push_cast, seval]
           refine qz7 (.take 0 (.take 2 (.take 3 (.all (.cons 1 (.all (.cons 4 (.all (.cons 5 (.all (.cons 6 (.all (.cons 7 (.take 10 (.all (.cons 8 (.all (.cons 9 (.all (.cons 11 .done .nil)) (.cons 11 (.all (.cons 9 .done .nil)) .nil))) (.cons 11 (.all (.cons 8 (.all (.cons 9 .done .nil)) .nil)) .nil)))) .nil)) .nil)) (.cons 6 (.all (.cons 5 (.all (.cons 7 (.take 10 (.all (.cons 8 (.all (.cons 9 (.all (.cons 11 .done .nil)) (.cons 11 (.all (.cons 9 .done .nil)) .nil))) (.cons 11 (.all (.cons 8 (.all (.cons 9 .done .nil)) .nil)) .nil)))) .nil)) .nil)) .nil))) (.cons 5 (.all (.cons 4 (.all (.cons 6 (.all (.cons 7 (.take 10 (.all (.cons 8 (.all (.cons 9 (.all (.cons 11 .done .nil)) (.cons 11 (.all (.cons 9 .done .nil)) .nil))) (.cons 11 (.all (.cons 8 (.all (.cons 9 .done .nil)) .nil)) .nil)))) .nil)) .nil)) (.cons 6 (.all (.cons 4 (.all (.cons 7 (.take 10 (.all (.cons 8 (.all (.cons 9 (.all (.cons 11 .done .nil)) (.cons 11 (.all (.cons 9 .done .nil)) .nil))) (.cons 11 (.all (.cons 8 (.all (.cons 9 .done .nil)) .nil)) .nil)))) .nil)) .nil)) .nil))) (.cons 6 (.all (.cons 4 (.all (.cons 5 (.all (.cons 7 (.take 10 (.all (.cons 8 (.all (.cons 9 (.all (.cons 11 .done .nil)) (.cons 11 (.all (.cons 9 .done .nil)) .nil))) (.cons 11 (.all (.cons 8 (.all (.cons 9 .done .nil)) .nil)) .nil)))) .nil)) .nil)) (.cons 5 (.all (.cons 4 (.all (.cons 7 (.take 10 (.all (.cons 8 (.all (.cons 9 (.all (.cons 11 .done .nil)) (.cons 11 (.all (.cons 9 .done .nil)) .nil))) (.cons 11 (.all (.cons 8 (.all (.cons 9 .done .nil)) .nil)) .nil)))) .nil)) .nil)) .nil))) .nil)))) (.cons 4 (.all (.cons 1 (.all (.cons 5 (.all (.cons 6 (.all (.cons 7 (.take 10 (.all (.cons 8 (.all (.cons 9 (.all (.cons 11 .done .nil)) (.cons 11 (.all (.cons 9 .done .nil)) .nil))) (.cons 11 (.all (.cons 8 (.all (.cons 9 .done .nil)) .nil)) .nil)))) .nil)) .nil)) (.cons 6 (.all (.cons 5 (.all (.cons 7 (.take 10 (.all (.cons 8 (.all (.cons 9 (.all (.cons 11 .done .nil)) (.cons 11 (.all (.cons 9 .done .nil)) .nil))) (.cons 11 (.all (.cons 8 (.all (.cons 9 .done .nil)) .nil)) .nil)))) .nil)) .nil)) .nil))) (.cons 6 (.all (.cons 1 (.all (.cons 5 (.all (.cons 7 (.take 10 (.all (.cons 8 (.all (.cons 9 (.all (.cons 11 .done .nil)) (.cons 11 (.all (.cons 9 .done .nil)) .nil))) (.cons 11 (.all (.cons 8 (.all (.cons 9 .done .nil)) .nil)) .nil)))) .nil)) .nil)) .nil)) .nil))) (.cons 6 (.all (.cons 1 (.all (.cons 4 (.all (.cons 5 (.all (.cons 7 (.take 10 (.all (.cons 8 (.all (.cons 9 (.all (.cons 11 .done .nil)) (.cons 11 (.all (.cons 9 .done .nil)) .nil))) (.cons 11 (.all (.cons 8 (.all (.cons 9 .done .nil)) .nil)) .nil)))) .nil)) .nil)) (.cons 5 (.all (.cons 4 (.all (.cons 7 (.take 10 (.all (.cons 8 (.all (.cons 9 (.all (.cons 11 .done .nil)) (.cons 11 (.all (.cons 9 .done .nil)) .nil))) (.cons 11 (.all (.cons 8 (.all (.cons 9 .done .nil)) .nil)) .nil)))) .nil)) .nil)) .nil))) (.cons 4 (.all (.cons 1 (.all (.cons 5 (.all (.cons 7 (.take 10 (.all (.cons 8 (.all (.cons 9 (.all (.cons 11 .done .nil)) (.cons 11 (.all (.cons 9 .done .nil)) .nil))) (.cons 11 (.all (.cons 8 (.all (.cons 9 .done .nil)) .nil)) .nil)))) .nil)) .nil)) .nil)) .nil))) .nil))))))) (by kernel_rfl) (by kernel_rfl) ?_
           simp only [go_sem, push_cast, seval]
           repeat' apply And.intro
           all_goals first
            | omega
            | (refine ⟨(Lg.hd ts2).pos, ts4, 0, rfl, rfl, hg4, ?_⟩
               rw [qkv] at hK
               generalize e3 : Lg.typ (Lg.hd ts2).pos ts4 = r at hK hi ⊢
               cases r with
               | error q =>
                 obtain ⟨a, c⟩ := q
                 intro ts' d'
                 simp only [go_sem, push_cast, seval]
                 refine qq0 [] [1000] ?_
                 simp only [go_sem, push_cast, seval]
                 intro vs hvs _
                 match vs, hvs with
                 | [v1, v2, v3, v4, v5], _ =>
                 simp only [go_sem, push_cast, seval]
                 refine ⟨_, _, _, _, _, _, _, rfl, rfl, rfl, _, _, rfl, ?_⟩
                 simp only [rbox, qkf, List.map_cons, List.map_nil, go_sem, push_cast, seval]
                 exact ⟨_, .cons (qzd qqd) (.cons (.rfl _) (.cons (.rfl _) .nil)), hK⟩
               | ok q =>
                 obtain ⟨x, ts3⟩ := q
                 intro hg3
                 have hl3 := Lg.zkj _ _ _ hi
                 have hp := hpay _ _ _ hi
                 simp only [if_pos hl3] at hK
                 simp only [go_sem, push_cast, seval]
                 repeat' apply And.intro
                 all_goals first
                  | omega
                  | (simp only [List.length_append, qzp, List.length_cons, List.length_nil]; done)
                  | (refine ⟨⟨(51, (y :: acc) ++ [x], ts3), ?_, hg3, ?_, qzg hK (fun _ _ h => h) (fun xs ts' e h => ?_)⟩,
                      ⟨rfl, qza rfl (qza rfl (qza rfl (qza rfl qzb))), qza rfl (qza ?_ (qza rfl (qza rfl qzb))), ?_⟩, hl3⟩
                     · first | exact .inl rfl | exact .inr rfl
                     · show Lg.sizes ((y :: acc) ++ [x]) + 3 * ts3.length ≤ 6291456
                       rw [qqg]; omega
                     · have h2 : outT Kr ((y :: acc) ++ x :: xs) := h
                       simpa using h2
                     · show _ = some (Box.mk [_, _, _, _, qx1 51 ((y :: acc) ++ [x])] _); rw [qqn]; rfl
                     · show subm _ (qjc 51 ((y :: acc) ++ [x]))
                       refine qq3 ?_
                       first | rfl | (show some (5, 25, _) = _; rw [qji])))
   · rw [if_pos (by simpa using h)] at hK
     have hT : outT Kr acc := by
      have h2 : outT Kr (acc ++ []) := hK
      rwa [List.append_nil] at h2
     have hz : Lg.size (.node 0 [] 0 0 acc) ≤ 9223372036854775807 := by
      rw [zxm]
      show 1 + Lg.sizes acc ≤ _
      omega
     unfold outT at hT
     rcases hd with rfl | rfl
     all_goals
      cases acc with
      | nil =>
        simp only [go_sem, push_cast, seval]
        refine ⟨_, .node 0 [] 0 0 [], rfl, qzd qqd, hz, ?_⟩
        simp only [go_sem, push_cast, seval]
        refine ⟨fun h4 => ?_, fun h4 => ?_⟩
        · rw [if_pos (by have := of_decide_eq_true h4; omega)] at hT
          refine qq0 [] [] ?_
          simp only [go_sem, push_cast, seval]
          refine ⟨_, _, _, _, _, _, _, rfl, rfl, rfl, ?_⟩
          simp only [rbox, qkf, List.map_cons, List.map_nil, go_sem, push_cast, seval]
          exact ⟨_, .cons (qzd qqd) (.cons (.rfl _) (.cons (.rfl _) .nil)), hT⟩
        · rw [if_neg (by have := of_decide_eq_false h4; omega)] at hT
          refine qq0 [] [] ?_
          simp only [go_sem, push_cast, seval]
          refine ⟨_, _, _, _, _, _, _, rfl, rfl, rfl, ?_⟩
          simp only [rbox, qkf, List.map_cons, List.map_nil, go_sem, push_cast, seval]
          exact ⟨_, .cons (qzd qqd) (.cons (.rfl _) (.cons (.rfl _) .nil)), hT⟩
      | cons y acc =>
        simp only [go_sem, push_cast, seval]
        refine ⟨_, .node 0 [] 0 0 (y :: acc), rfl, qzd (.rfl _), hz, ?_⟩
        simp only [go_sem, push_cast, seval]
        refine ⟨fun h4 => ?_, fun h4 => ?_⟩
        · rw [if_pos (by have := of_decide_eq_true h4; omega)] at hT
          refine qq0 [] [] ?_
          simp only [go_sem, push_cast, seval]
          refine ⟨_, _, _, _, _, _, _, rfl, rfl, rfl, ?_⟩
          simp only [rbox, qkf, List.map_cons, List.map_nil, go_sem, push_cast, seval]
          exact ⟨_, .cons (qzd qqd) (.cons (.rfl _) (.cons (.rfl _) .nil)), hT⟩
        · rw [if_neg (by have := of_decide_eq_false h4; omega)] at hT
          refine qq0 [] [] ?_
          simp only [go_sem, push_cast, seval]
          refine ⟨_, _, _, _, _, _, _, rfl, rfl, rfl, ?_⟩
          simp only [rbox, qkf, List.map_cons, List.map_nil, go_sem, push_cast, seval]
          exact ⟨_, .cons (qzd (.rfl _)) (.cons (.rfl _) (.cons (.rfl _) .nil)), hT⟩
end Lx
namespace Lg
theorem qz6 {α : Type} {x y : α} {ts ts' : List Tok} (h : (.ok (x, ts) : PR α) = .ok (y, ts')) : x = y ∧ ts = ts' := by
 simp only [Except.ok.injEq, Prod.mk.injEq] at h; exact h
theorem qzx (k : Int) (t : Bs) (n p : Int) (ks : List Tree) : size (.node k t n p ks) = 1 + sizes ks := by rw [size]
theorem qzs : sizes [] = 0 := by rw [sizes]
theorem qzw (x : Tree) (xs : List Tree) : sizes (x :: xs) = size x + sizes xs := by rw [sizes]
theorem qki (xs ys : List Tree) : sizes (xs ++ ys) = sizes xs + sizes ys := by
 induction xs with
 | nil => simp [qzs]
 | cons x xs ih => simp only [List.cons_append, qzw, ih]; omega
theorem zzr (t : Tree) : size t = 1 + sizes t.kids := by cases t; rw [qzx]; rfl
theorem qqh {ts ts' : List Tok} {x : Tree} (h : name ts = .ok (x, ts')) : size x = 1 ∧ ts'.length + 1 ≤ ts.length := by
 have := qqa ts _ _ h
 rw [name_eq h, qzx, qzs]
 exact ⟨rfl, this⟩
theorem number_pay {n : Int} {ts ts' : List Tok} {x : Int} (h : qk9 n ts = .ok (x, ts')) : ts'.length + 1 ≤ ts.length := qq9 n ts _ _ h
theorem qql {s : Bs} {ts ts' : List Tok} {x : Unit} (h : must s ts = .ok (x, ts')) : ts'.length + 1 ≤ ts.length := qqc s ts _ _ h
theorem qjz (t : Tree) (k : Int) : size (t.withKind k) = size t := by cases t; simp only [Tree.withKind, qzx]
theorem qkk (t : Tree) (k : Int) : size (t.withNum k) = size t := by cases t; simp only [Tree.withNum, qzx]
theorem qkj (t : Tree) (k : Int) : size (t.withPos k) = size t := by cases t; simp only [Tree.withPos, qzx]
theorem qqe (t : Tree) (ks : List Tree) : size (t.withKids ks) = 1 + sizes ks := by cases t; simp only [Tree.withKids, qzx]
theorem more_pay {n x : Tree} {ts ts' : List Tok} (h : more n ts = .ok (x, ts')) : size x = size n ∧ ts'.length ≤ ts.length := by
 refine ⟨?_, qwm n ts _ _ h⟩
 unfold more at h
 split at h
 · obtain ⟨v, ts1, _, h⟩ := qzr h
   obtain ⟨rfl, _⟩ := qz6 h
   exact qkk _ _
 · split at h
   · obtain ⟨v, ts1, _, h⟩ := qzr h
     obtain ⟨rfl, _⟩ := qz6 h
     exact qkk _ _
   · obtain ⟨rfl, _⟩ := qz6 h; rfl
theorem qjy {x : Tree} {ts ts' : List Tok} (h : term ts = .ok (x, ts')) : size x = 1 ∧ ts'.length + 1 ≤ ts.length := by
 refine ⟨?_, qq1 ts _ _ h⟩
 unfold term at h
 split at h
 · obtain ⟨v, ts1, _, h⟩ := qzr h
   obtain ⟨rfl, _⟩ := qz6 h
   rw [qzx, qzs]
 · split at h
   · obtain ⟨v, ts1, _, h⟩ := qzr h
     obtain ⟨rfl, _⟩ := qz6 h
     rw [qzx, qzs]
   · obtain ⟨v, ts1, e, h⟩ := qzr h
     rw [(more_pay h).1, (qqh e).1]
theorem cmp_pay {x : Bs} {ts ts' : List Tok} (h : cmp ts = .ok (x, ts')) : ts'.length + 1 ≤ ts.length := cmp_eats ts _ _ h
theorem fact_pay {x : Tree} {ts ts' : List Tok} (h : fact ts = .ok (x, ts')) : size x + 3 * ts'.length ≤ 3 * ts.length := by
 obtain ⟨a, ts1, e1, h⟩ := qzr h
 obtain ⟨op, ts2, e2, h⟩ := qzr h
 obtain ⟨b, ts3, e3, h⟩ := qzr h
 obtain ⟨rfl, rfl⟩ := qz6 h
 have h1 := qjy e1
 have h2 := cmp_pay e2
 have h3 := qjy e3
 rw [qzx, qzw, qzw, qzs]
 omega
theorem zkd {one : List Tok → PR Tree} (hone : ∀ ts x ts', one ts = .ok (x, ts') → size x + 3 * ts'.length ≤ 3 * ts.length) (n : Nat) : ∀ (ts : List Tok), ts.length = n → ∀ xs ts', qq7 one ts = .ok (xs, ts') → sizes xs + 3 * ts'.length ≤ 3 * ts.length := by
 induction n using Nat.strongRecOn with
 | _ n ih =>
   intro ts hn xs ts' h
   rw [qq7] at h
   split at h
   · split at h
     · cases h
     · rename_i x ts1 e
       have h1 := hone _ _ _ e
       have h2 := qzz ts
       split at h
       · obtain ⟨ys, ts2, e2, h⟩ := qzr h
         have := ih ts1.length (by omega) ts1 rfl ys ts2 e2
         obtain ⟨rfl, rfl⟩ := qz6 h
         rw [qzw]
         omega
       · cases h
   · obtain ⟨rfl, rfl⟩ := qz6 h
     rw [qzs]; omega
theorem zzb {one : List Tok → PR Tree} (hone : ∀ ts x ts', one ts = .ok (x, ts') → size x + 3 * ts'.length ≤ 3 * ts.length) {ts ts' : List Tok} {xs : List Tree} (h : list one ts = .ok (xs, ts')) : sizes xs + 3 * ts'.length ≤ 3 * ts.length := by
 obtain ⟨x, ts1, e, h⟩ := qzr h
 obtain ⟨ys, ts2, e2, h⟩ := qzr h
 obtain ⟨rfl, rfl⟩ := qz6 h
 have h1 := hone _ _ _ e
 have h2 := zkd hone _ ts1 rfl _ _ e2
 rw [qzw]; omega
theorem term_pay' : ∀ ts x ts', term ts = .ok (x, ts') → size x + 3 * ts'.length ≤ 3 * ts.length := fun ts x ts' h => by have := qjy h; omega
theorem zji {ts ts' : List Tok} {xs : List Tree} (h : args ts = .ok (xs, ts')) : sizes xs + 3 * ts'.length + 6 ≤ 3 * ts.length := by
 obtain ⟨_, ts1, e1, h⟩ := qzr h
 have h1 := qql e1
 split at h
 · rename_i hr
   have := qqq hr
   obtain ⟨rfl, rfl⟩ := qz6 h
   rw [qzs]; omega
 · obtain ⟨ys, ts2, e2, h⟩ := qzr h
   obtain ⟨_, ts3, e3, h⟩ := qzr h
   obtain ⟨rfl, rfl⟩ := qz6 h
   have h2 := zzb term_pay' e2
   have h3 := qql e3
   omega
theorem sort_pay {x : Tree} {ts ts' : List Tok} (h : sort ts = .ok (x, ts')) : size x + 3 * ts'.length ≤ 3 * ts.length := by
 unfold sort at h
 split at h
 · rename_i hr; have := qqq hr
   obtain ⟨rfl, rfl⟩ := qz6 h; rw [qzx, qzs]; omega
 · split at h
   · rename_i hr; have := qqq hr
     obtain ⟨rfl, rfl⟩ := qz6 h; rw [qzx, qzs]; omega
   · split at h
     · obtain ⟨k, ts1, e, h⟩ := qzr h
       obtain ⟨rfl, rfl⟩ := qz6 h
       have h1 := qqh e
       have h2 := qzz ts
       rw [qzx, qzw, qzs]; omega
     · cases h
theorem field_pay : ∀ ts x ts', field ts = .ok (x, ts') → size x + 3 * ts'.length ≤ 3 * ts.length := fun ts x ts' h => by
 obtain ⟨n, ts1, e, h⟩ := qzr h
 have h1 := qqh e
 split at h
 · obtain ⟨k, ts2, e2, h⟩ := qzr h
   obtain ⟨_, ts3, e3, h⟩ := qzr h
   obtain ⟨rfl, rfl⟩ := qz6 h
   have h2 := qqh e2
   have h3 := qql e3
   have h4 := qzz ts1
   rw [qqe, qzw, qzs]; omega
 · obtain ⟨rfl, rfl⟩ := qz6 h
   rw [qjz]; omega
theorem mode_pay {x : Tree} {ts ts' : List Tok} (h : mode ts = .ok (x, ts')) : size x + 3 * ts'.length ≤ 3 * ts.length := by
 unfold mode at h
 split at h
 · rename_i hr; have := qqq hr
   obtain ⟨rfl, rfl⟩ := qz6 h; rw [qzx, qzs]; omega
 · split at h
   · obtain ⟨k, ts1, e, h⟩ := qzr h
     obtain ⟨rfl, rfl⟩ := qz6 h
     have h1 := qqh e
     have h2 := qzz ts
     rw [qzx, qzw, qzs]; omega
   · obtain ⟨_, ts1, e, h⟩ := qzr h
     have h0 := qql e
     split at h
     · obtain ⟨k, ts2, e2, h⟩ := qzr h
       obtain ⟨rfl, rfl⟩ := qz6 h
       have h1 := qqh e2
       have h2 := qzz ts1
       rw [qzx, qzw, qzs]; omega
     · obtain ⟨k, ts2, e2, h⟩ := qzr h
       obtain ⟨rfl, rfl⟩ := qz6 h
       have h1 := qqh e2
       rw [qzx, qzw, qzs]; omega
theorem param_pay : ∀ ts x ts', param ts = .ok (x, ts') → size x + 3 * ts'.length ≤ 3 * ts.length := fun ts x ts' h => by
 obtain ⟨n, ts1, e, h⟩ := qzr h
 obtain ⟨_, ts2, e2, h⟩ := qzr h
 obtain ⟨m, ts3, e3, h⟩ := qzr h
 obtain ⟨rfl, rfl⟩ := qz6 h
 have h1 := qqh e
 have h2 := qql e2
 have h3 := mode_pay e3
 rw [qqe, qzw, qzs]; omega
theorem qxv {n x : Tree} {ts ts' : List Tok} (h : qwq n ts = .ok (x, ts')) : x = n ∧ ts'.length + 1 ≤ ts.length := by
 obtain ⟨_, ts1, e, h⟩ := qzr h
 obtain ⟨rfl, rfl⟩ := qz6 h
 exact ⟨rfl, qql e⟩
theorem zq2 {k : Int} {x : Tree} {ts ts' : List Tok} (h : zzy k ts = .ok (x, ts')) : size x = 1 ∧ ts'.length + 1 ≤ ts.length := by
 refine ⟨?_, qvh k ts _ _ h⟩
 obtain ⟨n, ts1, e, h⟩ := qzr h
 obtain ⟨_, ts2, _, h⟩ := qzr h
 obtain ⟨v, ts3, _, h⟩ := qzr h
 obtain ⟨_, ts4, _, h⟩ := qzr h
 obtain ⟨rfl, rfl⟩ := qz6 h
 rw [qkk, qjz]; exact (qqh e).1
theorem expr_pay {x : Tree} {ts ts' : List Tok} (h : expr ts = .ok (x, ts')) : size x + 3 * ts'.length ≤ 3 * ts.length := by
 unfold expr at h
 split at h
 · rename_i hr; have h0 := qqq hr
   obtain ⟨v, ts1, e, h⟩ := qzr h
   obtain ⟨rfl, rfl⟩ := qz6 h
   have := number_pay e
   rw [qzx, qzs]; omega
 split at h
 · rename_i hr; have h0 := qqq hr
   obtain ⟨v, ts1, e, h⟩ := qzr h
   obtain ⟨rfl, rfl⟩ := qz6 h
   have := qqh e
   rw [qzx, qzs]; omega
 split at h
 · rename_i hr; have h0 := qqq hr
   split at h
   · obtain ⟨v, ts1, e, h⟩ := qzr h
     obtain ⟨rfl, rfl⟩ := qz6 h
     have := qqh e
     have := qzz ts.tail
     rw [qzx, qzs]; omega
   · obtain ⟨v, ts1, e, h⟩ := qzr h
     obtain ⟨rfl, rfl⟩ := qz6 h
     have := qqh e
     rw [qzx, qzs]; omega
 split at h
 · exact term_pay' _ _ _ h
 obtain ⟨n, ts1, e, h⟩ := qzr h
 have h1 := qqh e
 split at h
 · obtain ⟨xs, ts2, e2, h⟩ := qzr h
   obtain ⟨rfl, rfl⟩ := qz6 h
   have := zji e2
   rw [qqe]; omega
 split at h
 · obtain ⟨k, ts2, e2, h⟩ := qzr h
   obtain ⟨_, ts3, e3, h⟩ := qzr h
   obtain ⟨rfl, rfl⟩ := qz6 h
   have := qjy e2
   have := qql e3
   have := qzz ts1
   rw [qqe, qzw, qzs]; omega
 split at h
 · rename_i hr
   simp only [Bool.and_eq_true] at hr
   have h0 := qqq hr.1
   obtain ⟨k, ts2, e2, h⟩ := qzr h
   obtain ⟨rfl, rfl⟩ := qz6 h
   have := qqh e2
   rw [qzx, qzw, qzw, qzs]; omega
 split at h
 · rename_i hr
   simp only [Bool.and_eq_true] at hr
   have h0 := qqq hr.1
   obtain ⟨k, ts2, e2, h⟩ := qzr h
   obtain ⟨rfl, rfl⟩ := qz6 h
   have := qqh e2
   rw [qzx, qzw, qzw, qzs]; omega
 · have := more_pay h
   omega
theorem named_pay {n x : Tree} (hn : size n = 1) {ts ts' : List Tok} (h : zka n ts = .ok (x, ts')) : size x + 3 * ts'.length ≤ 3 * ts.length + 1 := by
 unfold zka at h
 split at h
 · obtain ⟨xs, ts2, e2, h⟩ := qzr h
   obtain ⟨rfl, rfl⟩ := qz6 h
   have := zji e2
   rw [qzx, qzw, qzs, qqe]; omega
 split at h
 · obtain ⟨a, ts1, e1, h⟩ := qzr h
   obtain ⟨_, ts2, e2, h⟩ := qzr h
   obtain ⟨_, ts3, e3, h⟩ := qzr h
   obtain ⟨b, ts4, e4, h⟩ := qzr h
   obtain ⟨rfl, rfl⟩ := qz6 h
   have := qjy e1
   have := qql e2
   have := qql e3
   have := qjy e4
   have := qzz ts
   rw [qqe, qzw, qzw, qzs]; omega
 · obtain ⟨_, ts1, e1, h⟩ := qzr h
   obtain ⟨b, ts2, e2, h⟩ := qzr h
   obtain ⟨rfl, rfl⟩ := qz6 h
   have := qql e1
   have := expr_pay e2
   rw [qqe, qzw, qzs]; omega
def PayF (f : List Tok → PR Tree) : Prop := ∀ ts x ts', f ts = .ok (x, ts') → size x + 3 * ts'.length ≤ 3 * ts.length
theorem zxe {block : List Tok → PR Tree} (hb : PayF block) {k at_ : Int} {x : Tree} {ts ts' : List Tok} (h : qw1 block k at_ ts = .ok (x, ts')) : size x + 3 * ts'.length ≤ 3 * ts.length := by
 obtain ⟨n, ts1, e1, h⟩ := qzr h
 obtain ⟨b, ts2, e2, h⟩ := qzr h
 obtain ⟨rfl, rfl⟩ := qz6 h
 have h1 := fact_pay e1
 have h2 := hb _ _ _ e2
 rw [qzx, qki, qzw, qzs]
 rw [zzr] at h1
 omega
theorem stmt_pay {block : List Tok → PR Tree} (hb : PayF block) : PayF (stmt block) := fun ts x ts' h => by
 unfold stmt at h
 split at h
 · rename_i hr; have h0 := qqq hr
   obtain ⟨n, ts1, e, h⟩ := qzr h
   obtain ⟨rfl, h2⟩ := qxv h
   have := qqh e
   rw [qkj, qjz]; omega
 split at h
 · rename_i hr; have h0 := qqq hr
   obtain ⟨n, ts1, e, h⟩ := qzr h
   obtain ⟨rfl, h2⟩ := qxv h
   have := zq2 e
   rw [qkj]; omega
 split at h
 · rename_i hr; have h0 := qqq hr
   obtain ⟨n, ts1, e, h⟩ := qzr h
   obtain ⟨rfl, h2⟩ := qxv h
   have := zq2 e
   rw [qkj]; omega
 split at h
 · rename_i hr; have h0 := qqq hr
   obtain ⟨n, ts1, e, h⟩ := qzr h
   have h1 := zxe hb e
   rw [zzr] at h1
   split at h
   · obtain ⟨b, ts2, e2, h⟩ := qzr h
     obtain ⟨rfl, rfl⟩ := qz6 h
     have h2 := hb _ _ _ e2
     have := qzz ts1
     rw [qqe, qki, qzw, qzs]; omega
   · obtain ⟨rfl, rfl⟩ := qz6 h
     rw [qqe, qki, qzw, qzs, qzx, qzs]; omega
 split at h
 · have h1 := zxe hb h
   have := qzz ts
   omega
 split at h
 · rename_i hr; have h0 := qqq hr
   split at h
   · obtain ⟨rfl, h2⟩ := qxv h
     rw [qzx, qzs]; omega
   · obtain ⟨y, ts1, e, h⟩ := qzr h
     obtain ⟨rfl, h2⟩ := qxv h
     have := qjy e
     rw [qzx, qzw, qzs]; omega
 split at h
 · rename_i hr; have h0 := qqq hr
   obtain ⟨rfl, h2⟩ := qxv h
   rw [qzx, qzs]; omega
 split at h
 · rename_i hr; have h0 := qqq hr
   obtain ⟨n, ts1, e, h⟩ := qzr h
   obtain ⟨xs, ts2, e2, h⟩ := qzr h
   obtain ⟨rfl, h2⟩ := qxv h
   have := qqh e
   have := zji e2
   rw [qzx]; omega
 · obtain ⟨n, ts1, e, h⟩ := qzr h
   obtain ⟨m, ts2, e2, h⟩ := qzr h
   obtain ⟨rfl, h2⟩ := qxv h
   have h3 := qqh e
   have := named_pay h3.1 e2
   omega
theorem stmts_pay {one : List Tok → PR Tree} (hone : PayF one) (n : Nat) : ∀ (ts : List Tok), ts.length = n → ∀ xs ts', qw2 one ts = .ok (xs, ts') → sizes xs + 3 * ts'.length ≤ 3 * ts.length := by
 induction n using Nat.strongRecOn with
 | _ n ih =>
   intro ts hn xs ts' h
   rw [qw2] at h
   split at h
   · obtain ⟨rfl, rfl⟩ := qz6 h
     have := qzz ts
     rw [qzs]; omega
   · split at h
     · cases h
     · rename_i x ts1 e
       have h1 := hone _ _ _ e
       split at h
       · obtain ⟨ys, ts2, e2, h⟩ := qzr h
         have := ih ts1.length (by omega) ts1 rfl ys ts2 e2
         obtain ⟨rfl, rfl⟩ := qz6 h
         rw [qzw]
         omega
       · cases h
theorem zk0 : ∀ n, PayF (block n)
 | 0 => fun ts x ts' h => by
   rw [block] at h
   split at h <;> cases h
 | n + 1 => fun ts x ts' h => by
   rw [block] at h
   obtain ⟨_, ts1, e1, h⟩ := qzr h
   obtain ⟨xs, ts2, e2, h⟩ := qzr h
   obtain ⟨rfl, rfl⟩ := qz6 h
   have := qql e1
   have := stmts_pay (stmt_pay (zk0 n)) _ ts1 rfl _ _ e2
   rw [qzx]; omega
theorem qwv {n x : Tree} {ts ts' : List Tok} (h : qx2 n ts = .ok (x, ts')) : size x + 3 * ts'.length ≤ 3 * ts.length + size n := by
 unfold qx2 at h
 split at h
 · obtain ⟨fs, ts1, e1, h⟩ := qzr h
   obtain ⟨_, ts2, e2, h⟩ := qzr h
   obtain ⟨rfl, rfl⟩ := qz6 h
   have := zzb (fun _ _ _ h => fact_pay h) e1
   have := qql e2
   have := qzz ts
   rw [qqe, qki, zzr n]; omega
 · obtain ⟨_, ts2, e2, h⟩ := qzr h
   obtain ⟨rfl, rfl⟩ := qz6 h
   have := qql e2
   omega
theorem typ_pay (at_ : Int) : PayF (typ at_) := fun ts x ts' h => by
 obtain ⟨n, ts1, e1, h⟩ := qzr h
 obtain ⟨s, ts2, e2, h⟩ := qzr h
 have h1 := qqh e1
 have h2 := sort_pay e2
 split at h
 · obtain ⟨fs, ts3, e3, h⟩ := qzr h
   obtain ⟨_, ts4, e4, h⟩ := qzr h
   have h3 := zzb field_pay e3
   have h4 := qql e4
   have h5 := qwv h
   have := qzz ts2
   rw [qzx, qzw] at h5
   omega
 · have h5 := qwv h
   rw [qzx, qzw, qzs] at h5
   omega
theorem zko {xs : List Tree} {ts ts' : List Tok} (h : qwb ts = .ok (xs, ts')) : sizes xs + 3 * ts'.length + 6 ≤ 3 * ts.length := by
 obtain ⟨_, ts1, e1, h⟩ := qzr h
 have h1 := qql e1
 split at h
 · rename_i hr; have := qqq hr
   obtain ⟨rfl, rfl⟩ := qz6 h
   rw [qzs]; omega
 · obtain ⟨ps, ts2, e2, h⟩ := qzr h
   obtain ⟨_, ts3, e3, h⟩ := qzr h
   obtain ⟨rfl, rfl⟩ := qz6 h
   have h2 := zzb param_pay e2
   have h3 := qql e3
   omega
theorem fnRet_pay {x : Tree} {ts ts' : List Tok} (h : zvw ts = .ok (x, ts')) : size x + 3 * ts'.length ≤ 3 * ts.length + 1 := by
 unfold zvw at h
 split at h
 · split at h
   · cases h
   · have := mode_pay h
     have := qzz ts
     omega
 · obtain ⟨rfl, rfl⟩ := qz6 h
   rw [qzx, qzs]; omega
theorem fn_pay (at_ : Int) : PayF (fn at_) := fun ts x ts' h => by
 obtain ⟨n, ts1, e1, h⟩ := qzr h
 obtain ⟨ps, ts2, e2, h⟩ := qzr h
 obtain ⟨r, ts3, e3, h⟩ := qzr h
 obtain ⟨b, ts4, e4, h⟩ := qzr h
 obtain ⟨rfl, rfl⟩ := qz6 h
 have h1 := qqh e1
 have h2 := zko e2
 have h3 := fnRet_pay e3
 have h4 := zk0 8 _ _ _ e4
 rw [qzx, qki, qzw, qzw, qzs]
 omega
theorem item_pay : PayF item := fun ts x ts' h => by
 unfold item at h
 split at h
 · have h1 := fn_pay _ _ _ _ h
   have := qzz ts
   omega
 · obtain ⟨_, ts1, e1, h⟩ := qzr h
   have h1 := qql e1
   have h2 := typ_pay _ _ _ _ h
   omega
end Lg
