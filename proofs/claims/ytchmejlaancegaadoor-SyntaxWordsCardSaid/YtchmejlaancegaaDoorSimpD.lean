/-
  Rules for functions with a deferred closure.
-/
import Derived.Test.YtchmejlaancegaaDoorSimp
import Derived.Test.YtchmejlaancegaaDoorDefer
set_option linter.unusedSimpArgs false
set_option linter.unusedVariables false
namespace Lx
open Go
@[go_sem ↓] theorem clK_normal (pk : List Nat) (K : Bx → Prop) (s : S) : clK pk K .normal s = (okD s.bx pk ∧ K (outB pk s.bx)) := (rfl)
@[go_sem ↓] theorem clK_ret (pk : List Nat) (K : Bx → Prop) (s : S) : clK pk K .ret s = (okD s.bx pk ∧ K (outB pk s.bx)) := (rfl)
@[go_sem ↓] theorem defQ_normal (E : Env) (sp : FuncId → Option Spec) (d n : Nat) (cs : List Nat) (B2 : Code) (Sc : DSpec) (rs : List ResultVar) (Kr : LV → Bx → Ar1 → Prop) (s : S) :
    defQ E sp d n cs B2 Sc rs Kr .normal s = evW s (fun s => Hold (tailK E sp d n cs B2 Sc rs Kr s) ⟨⟩) ⟨⟩ := (rfl)
@[go_sem ↓] theorem defQ_ret (E : Env) (sp : FuncId → Option Spec) (d n : Nat) (cs : List Nat) (B2 : Code) (Sc : DSpec) (rs : List ResultVar) (Kr : LV → Bx → Ar1 → Prop) (s : S) :
    defQ E sp d n cs B2 Sc rs Kr .ret s = resK E rs s fun xs => outK [] none xs s Kr := (rfl)
@[go_sem ↓] theorem finQ_normal (E : Env) (n : Nat) (Sc : DSpec) (rs : List ResultVar) (Kr : LV → Bx → Ar1 → Prop) (s : S) : finQ E n Sc rs Kr .normal s = finK E n Sc rs Kr none s := (rfl)
@[go_sem ↓] theorem finQ_ret (E : Env) (n : Nat) (Sc : DSpec) (rs : List ResultVar) (Kr : LV → Bx → Ar1 → Prop) (s : S) : finQ E n Sc rs Kr .ret s = finK E n Sc rs Kr none s := (rfl)
@[go_sem ↓] theorem finK_eq (E : Env) (n : Nat) (Sc : DSpec) (rs : List ResultVar) (Kr : LV → Bx → Ar1 → Prop) (mo : Option D) (s : S) : finK E n Sc rs Kr mo s = evW s (fun s => Hold (finK E n Sc rs Kr mo s) ⟨⟩) ⟨⟩ := (rfl)
theorem fin_use {E : Env} {n : Nat} {Sc : DSpec} {rs : List ResultVar} {Kr : LV → Bx → Ar1 → Prop} {mo : Option D} {s : S} {w : Ph (finK E n Sc rs Kr mo s)} (l bl : List Nat) (h : frzN l s fun s => blurN bl s fun s => finK1 E n Sc rs Kr mo s) : Hold (finK E n Sc rs Kr mo s) w := ⟨l, bl, h⟩
@[go_sem ↓] theorem blurN_nil (s : S) (K : S → Prop) : blurN [] s K = K s := (rfl)
@[go_sem ↓] theorem blurN_cons (k : Nat) (l : List Nat) (s : S) (K : S → Prop) : blurN (k :: l) s K = sm (s.bx k) fun b => evW s (fun s => evW b (fun b => Hold (blur1 s k b fun s => blurN l s K) ⟨⟩) ⟨⟩) ⟨⟩ := (rfl)
@[go_sem ↓] theorem frzN_nil (s : S) (K : S → Prop) : frzN [] s K = evW s K ⟨⟩ := (rfl)
@[go_sem ↓] theorem frzN_cons (r : Nat) (l : List Nat) (s : S) (K : S → Prop) : frzN (r :: l) s K = sm (s.ar r) fun a => frzN l { s with bx := mapf (Box.fz r a.2.2.length (.sl a.1 a.2.2 false)) s.bx, ar := del r s.ar } K := (rfl)
@[go_sem ↓] theorem finK1_eq (E : Env) (n : Nat) (Sc : DSpec) (rs : List ResultVar) (Kr : LV → Bx → Ar1 → Prop) (mo : Option D) (s : S) :
    finK1 E n Sc rs Kr mo s = (evW (capK n) (fun ks => okB s.bx ks ∧ evW s (fun s => Hold (Sc mo (fp ks s.bx) fun bx4 => resK E rs { s with bx := mrg ks bx4 s.bx } fun xs => outK [] none xs { s with bx := mrg ks bx4 s.bx } Kr) ⟨⟩) ⟨⟩) ⟨⟩) := (rfl)
@[push_cast] theorem capK_1 : capK 1 = [1000] := (rfl)
@[push_cast] theorem capK_2 : capK 2 = [1000, 1001] := (rfl)
@[push_cast] theorem capK_3 : capK 3 = [1000, 1001, 1002] := (rfl)
@[push_cast] theorem capK_4 : capK 4 = [1000, 1001, 1002, 1003] := (rfl)
@[push_cast] theorem recD_none : recD none = .imm .nilIface := (rfl)
@[push_cast] theorem recD_some (d : D) : recD (some d) = d := (rfl)
@[push_cast] theorem bps_1 : bps 1 = [.bp 1000 0] := (rfl)
@[push_cast] theorem bps_2 : bps 2 = [.bp 1000 0, .bp 1001 0] := (rfl)
@[push_cast] theorem bps_3 : bps 3 = [.bp 1000 0, .bp 1001 0, .bp 1002 0] := (rfl)
@[push_cast] theorem bps_4 : bps 4 = [.bp 1000 0, .bp 1001 0, .bp 1002 0, .bp 1003 0] := (rfl)
@[push_cast] theorem laysl_nil : laysl [] = nix := (rfl)
@[push_cast] theorem laysl_cons (i : Nat) (x : LV) (l : List (Nat × LV)) : laysl ((i, x) :: l) = put i x (laysl l) := (rfl)
@[push_cast] theorem fpl_nil (bx : Bx) (i : Nat) : fpl bx i [] = nix := (rfl)
@[push_cast] theorem fpl_cons (bx : Bx) (i k : Nat) (ks : List Nat) : fpl bx i (k :: ks) = match bx k with | some b => put i b (fpl bx (i + 1) ks) | none => fpl bx (i + 1) ks := (rfl)
theorem tail_use {E : Env} {sp : FuncId → Option Spec} {d n : Nat} {cs : List Nat} {B2 : Code} {Sc : DSpec} {rs : List ResultVar} {Kr : LV → Bx → Ar1 → Prop} {s : S} {w : Ph (tailK E sp d n cs B2 Sc rs Kr s)}
    (ks : List Nat) (L : List (Nat × LV)) (h1 : d < s.n) (h2 : ∀ p ∈ L, p.1 ≠ d) (h3 : nodup ks = true) (h4 : okB s.bx ks) (h5 : n ≤ ks.length) (h6 : cs.map s.tm = (ks.take n).map (fun k => some (.bp k 0))) (h7 : ∀ p ∈ L, s.tm p.1 = some p.2) (h8 : ∀ k ∈ kyss (L.map (·.2)), k ∈ ks)
    (h : evW (⟨s.n, laysl (L.map fun p => (p.1, ren ks p.2)), fpl s.bx 1000 ks, nix⟩ : S) (fun s2 => cK E sp B2 s2 (finQ E n Sc rs Kr) (fun d s' => finK E n Sc rs Kr (some d) s')) ⟨⟩) : Hold (tailK E sp d n cs B2 Sc rs Kr s) w :=
  ⟨ks, L, h1, h2, h3, h4, h5, h6, h7, h8, h⟩
@[push_cast] theorem mrg_three (k1 k2 k3 : Nat) (B1 B2 B3 : Box) (bx : Bx) : mrg [k1, k2, k3] (put 1000 B1 (put 1001 B2 (put 1002 B3 nix))) bx = put k1 B1 (put k2 B2 (put k3 B3 bx)) := by
  funext j
  by_cases e1 : j = k1
  · subst e1; simp [mrg, ixof, put]
  · by_cases e2 : j = k2
    · subst e2; simp [mrg, ixof, put, e1]
    · by_cases e3 : j = k3
      · subst e3; simp [mrg, ixof, put, e1, e2]
      · simp [mrg, put, e1, e2, e3]
theorem opsL_use {E : Env} {sp : FuncId → Option Spec} {ops : Array Oper} {l : List Oper} {s : S} {K : S → Prop} {Kp : D → S → Prop}
    (h : evW (ops.toList.map (·.dst)) (fun ds => evW (l.map o3) (fun l => opsM E sp ds l s K Kp) ⟨⟩) ⟨⟩) : opsL E sp ops l s K Kp := (opsL_eq E sp ops l s K Kp).symm ▸ h
end Lx
