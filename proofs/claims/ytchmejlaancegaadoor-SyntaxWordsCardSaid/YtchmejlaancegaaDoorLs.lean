/-
  The library's two functions: their laid contracts, as specifications of ours.
-/
import Derived.Test.YtchmejlaancegaaDoorLb
import Derived.Test.YtchmejlaancegaaDoorShelf
import Derived.Lib.IndexLaws
import Derived.Lib.ParseIntBCases
import Derived.Lib.SmallJoins
set_option linter.unusedVariables false
set_option maxRecDepth 20000
namespace Lx
open Go Go.RowKit
open Go.Proofs (Tryd.prog)
open Go.Proofs.Tryd

theorem block_lt' {w : World} {a : Addr} {v : Value} (h : w.cell? a = some v) : a.block < w.heap.size := by
  apply Classical.byContradiction
  intro hn
  unfold World.cell? at h
  rw [Array.getElem?_eq_none (by omega)] at h
  cases h
theorem Aft.below {g : Gh} {bx : Bx} {w w' : World} (h : Wd g bx nix w) (hB : Below w.heap.size w w') : Aft g bx w g nix none w' where
  Φ := Phi.le_refl _
  fr := ⟨hB.os, hB.tape, hB.output, hB.size, fun b hb _ => hB.block b hb⟩
  fix := fun _ _ _ e => Or.inl e
  wd := {
    box := fun k b e => by cases e
    arr := fun r sz ty xs e => by simp [ar0] at e
    len := fun r => by rw [h.len r]; simp [ar0, nix]
    fx := ⟨fun b o v e => by
      obtain ⟨h1, h2⟩ := h.fx.1 b o v e
      exact ⟨by rw [hB.cell (block_lt' h1)]; exact h1, h2⟩, h.fx.2⟩
    inj := fun k k' b b' e => by cases e
    inja := fun r r' a a' e => by simp [ar0] at e
    injb := fun k r b a e => by cases e
    outb := fun k b o e => by cases e
    outa := fun r a o e => by simp [ar0] at e }
  keys := fun k b e => by cases e
  arr := fun a e => by cases e

theorem indexByte_nonneg (l : Bs) (c : UInt8) : 0 ≤ Lib.indexByte l c ↔ l.contains c = true := by
  rw [List.contains_iff_mem]
  constructor
  · intro h
    obtain ⟨o, ho⟩ := Int.eq_ofNat_of_zero_le h
    exact List.mem_of_getElem? (Lib.indexByte_some ho).1
  · intro h
    have := Lib.indexByte_ge l c
    rcases Nat.lt_or_ge 0 1 with _ | _
    · by_cases e : Lib.indexByte l c = -1
      · obtain ⟨k, hk⟩ := List.getElem?_of_mem h
        exact absurd hk (Lib.indexByte_none e k)
      · omega
    · omega

theorem idx_OK : OK Tryd.prog 62 idxS where
  enters := fun _ _ => rfl
  calls := by
    rintro ys bx Kr Kp ⟨l, c, rfl, hK⟩ g vs w hv hw
    rcases hv with _ | ⟨h1, _ | ⟨h2, _ | _⟩⟩
    rcases h1 with ⟨⟨⟩⟩
    rcases h2 with ⟨⟨⟩⟩
    refine (Go.Proofs.Tryd.strings_IndexByte ⟨l.toArray⟩ (c.toNat : Int) w).mono fun e w' he => ?_
    obtain ⟨rfl, rfl⟩ := he
    exact ⟨g, Or.inl ⟨_, _, nix, none, rfl, hK _ (by rw [show ((c.toNat : Int).toNat.toUInt8) = c by simp]; exact indexByte_nonneg l c), .d (.int _ _), Aft.below hw (Below.refl _ _)⟩⟩

def decFrom (acc : Nat) (l : Bs) : Nat := l.foldl (fun n b => n * 10 + (b.toNat - 48)) acc
theorem decFrom_ge : ∀ (l : Bs) (acc : Nat), acc ≤ decFrom acc l
  | [], acc => Nat.le_refl _
  | b :: l, acc => by
    have := decFrom_ge l (acc * 10 + (b.toNat - 48))
    show acc ≤ decFrom (acc * 10 + (b.toNat - 48)) l
    omega
theorem parseM : ∀ (l : Bs) (acc : Nat), l.all Lg.isDigit = true →
    Lib.parseUintM 18446744073709551615 acc l = .ok (decFrom acc l) ∨ (Lib.parseUintM 18446744073709551615 acc l = .range ∧ 9223372036854775807 < decFrom acc l)
  | [], acc, _ => Or.inl rfl
  | b :: l, acc, h => by
    rw [List.all_cons, Bool.and_eq_true] at h
    have hd : 48 ≤ b.toNat ∧ b.toNat ≤ 57 := by
      have := h.1
      unfold Lg.isDigit at this
      simpa using this
    have hge := decFrom_ge l (acc * 10 + (b.toNat - 48))
    rw [Lib.parseUintM, if_pos hd]
    show _ = Lib.NumEnd.ok (decFrom (acc * 10 + (b.toNat - 48)) l) ∨ _ ∧ _ < decFrom (acc * 10 + (b.toNat - 48)) l
    split
    · exact Or.inr ⟨rfl, by omega⟩
    · split
      · exact Or.inr ⟨rfl, by omega⟩
      · exact parseM l _ h.2
theorem parse64 {l : Bs} (hne : l ≠ []) (h : l.all Lg.isDigit = true) : Lib.parseIntB 64 l = if 9223372036854775807 < Lg.dec l then .range else .ok (Lg.dec l : Int) := by
  cases l with
  | nil => exact absurd rfl hne
  | cons c r =>
    have hd : 48 ≤ c.toNat ∧ c.toNat ≤ 57 := by
      have := h
      rw [List.all_cons, Bool.and_eq_true] at this
      have := this.1
      unfold Lg.isDigit at this
      simpa using this
    rw [Lib.parseIntB_plain 64 c r (by omega) (by omega)]
    unfold Lib.parseUintB
    rw [if_neg hne]
    have e : decFrom 0 (c :: r) = Lg.dec (c :: r) := rfl
    rcases parseM (c :: r) 0 h with h1 | ⟨h1, h2⟩
    · show Lib.signlessC _ (Lib.parseUintM 18446744073709551615 0 (c :: r)) = _
      rw [h1, e]
      show (if 9223372036854775808 ≤ Lg.dec (c :: r) then _ else _) = _
      split
      · rw [if_pos (by omega)]
      · rw [if_neg (by omega)]
    · show Lib.signlessC _ (Lib.parseUintM 18446744073709551615 0 (c :: r)) = _
      rw [e] at h2
      rw [h1, if_pos h2]; rfl

theorem pint_OK : OK Tryd.prog 59 pintS where
  enters := fun _ _ => rfl
  calls := by
    rintro ys bx Kr Kp ⟨l, rfl, hne, hall, hl, hK1, hK2⟩ g vs w hv hw
    rcases hv with _ | ⟨h1, _ | ⟨h2, _ | ⟨h3, _ | _⟩⟩⟩
    rcases h1 with ⟨⟨⟩⟩
    rcases h2 with ⟨⟨⟩⟩
    rcases h3 with ⟨⟨⟩⟩
    have hp := parse64 hne hall
    have hsz : (⟨l.toArray⟩ : ByteArray).size = l.length := by simp [ByteArray.size]
    by_cases hd : 9223372036854775807 < Lg.dec l
    · rw [if_pos hd] at hp
      obtain ⟨v, hg⟩ := hw.fx.2
      refine (Go.Proofs.Tryd.strconv_ParseInt_10_at64_range ⟨l.toArray⟩ (by omega) hp (.iface v.1 v.2) w (hw.fx.1 _ _ _ hg).1 (Or.inr ⟨_, _, rfl⟩)).mono fun e w' he => ?_
      obtain ⟨N, rfl, _, _, hB⟩ := he
      exact ⟨g, Or.inl ⟨_, _, nix, none, rfl, hK2 hd _ _ (.imm _), .tup (.cons (.d (.int _ _)) (.cons (.d (.ifc _ (.imm _))) .nil)), Aft.below hw hB⟩⟩
    · rw [if_neg hd] at hp
      refine (Go.Proofs.Tryd.strconv_ParseInt_10_at64_ok ⟨l.toArray⟩ (by omega) _ hp w).mono fun e w' he => ?_
      obtain ⟨rfl, he⟩ := he
      have hB : Below w.heap.size w w' := by
        rcases he with rfl | ⟨t, rfl⟩
        · exact Below.refl _ _
        · exact Joins.below_bytesWorld _ _ _ _ (Nat.le_refl _)
      exact ⟨g, Or.inl ⟨_, _, nix, none, rfl, hK1 (by omega), .tup (.cons (.d (.int _ _)) (.cons (.d (.imm _)) .nil)), Aft.below hw hB⟩⟩

end Lx
