import Derived.Test.YtchmejlaancegaaGreatDoorFn
set_option linter.unusedSimpArgs false
set_option linter.unusedVariables false
namespace Lx
open Go
theorem nodup_of : ∀ {l : List Nat}, l.Nodup → nodup l = true
  | [], _ => rfl
  | k :: l, h => by
    obtain ⟨h1, h2⟩ := List.nodup_cons.1 h
    simp [nodup, nodup_of h2, h1]
def unC : List LV → List LV
  | [] => []
  | x :: l => (match x with
    | .d x => .d x
    | _ => .un) :: unC l
def outU : List Nat → Bx → Bx
  | [], _ => nix
  | k :: ks, bx => match bx k with
    | some b => put k ⟨unC b.cells, b.ty⟩ (outU ks bx)
    | none => outU ks bx
def outK3 (pk : List Nat) (xs : List LV) (s : S) (Kr : LV → Bx → Ar → Prop) : Prop :=
  frzR s xs fun ds s' => nodup ((M3 s'.bx 0 pk).map (·.2)) = true ∧ nodup ((M3 s'.bx 0 pk).map (·.1)) = true ∧ ∃ es, D.les ds es ∧ Kr (one1 es) (fp3 s'.bx 0 pk) (pa3 s'.ar (M3 s'.bx 0 pk))
def endK3 (E : Env) (rs : List ResultVar) (pk : List Nat) (Kr : LV → Bx → Ar → Prop) : Ex → S → Prop
  | .exit _, _ => False
  | .normal, s => resK E rs s fun xs => outK3 pk xs s Kr
  | .ret, s => resK E rs s fun xs => outK3 pk xs s Kr
def puta : List (Nat × (Nat × TypeId × List D)) → Ar
  | [] => nix
  | (k, b) :: l => put k b (puta l)
def capN (pk : List Nat) : Prop := ∀ (i k : Nat), pk[i]? = some k → k = 1000 + i
theorem capN.nodup {pk : List Nat} (h : capN pk) : Lx.nodup pk = true := by
  refine nodup_of (List.pairwise_iff_getElem.2 fun i j hi hj hij e => ?_)
  have h1 := h i _ (List.getElem?_eq_getElem hi)
  have h2 := h j _ (List.getElem?_eq_getElem hj)
  omega
theorem Aft3.mk' {g₀ : Gh} {bx : Bx} {ar : Ar} {w w' : World} {g : Gh} {bx' : Bx} {ar' : Ar} {pk : List Nat} (h : Rw ⟨own3 g₀ bx ar, g₀, w⟩ g bx' ar' w') (hc : capN pk) (hpk : ∀ k ∈ pk, ∃ b, bx k = some b)
    (hm : Lx.nodup ((M3 bx' 0 pk).map (·.2)) = true) (hm1 : Lx.nodup ((M3 bx' 0 pk).map (·.1)) = true) :
    Aft3 g₀ bx ar w (g.bare3 pk (M3 bx' 0 pk)) (fp3 bx' 0 pk) (pa3 ar' (M3 bx' 0 pk)) w' where
  Φ := h.mine.le
  fr := h.fr
  fix := h.mine.fix
  wd := h.wd.fpx hc.nodup hm hm1
  keys j b hj := by
    obtain ⟨h1, k, b0, h2, h3, _⟩ := fp3_some hj
    have h2' : pk[j - 1000]? = some k := by simpa using h2
    have e := hc _ _ h2'
    have e' : k = j := by omega
    subst e'
    refine ⟨by omega, hpk k (List.mem_of_getElem? h2'), ?_⟩
    rw [← h.keys k (by omega)]
    simp [Gh.bare3, h2']
  arr r a hr := by
    rw [pa3_lkp] at hr
    obtain ⟨i, h1, h2⟩ := Option.bind_eq_some_iff.1 hr
    have := h.mine.arr i a h2
    simpa [Gh.bare3, h1] using this
end Lx
