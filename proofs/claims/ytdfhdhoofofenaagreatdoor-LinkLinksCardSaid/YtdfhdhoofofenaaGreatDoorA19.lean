import Derived.Test.YtdfhdhoofofenaaGreatDoorA18
import Derived.Shelf.Small.Strs
import Derived.Shelf.Strconv.Itoa0
import Derived.Shelf.Strconv.Itoa1
import Derived.Shelf.LaysM
import Derived.Shelf.Strconv.Itoa2
import Derived.Shelf.Strconv.Itoa3
import Derived.Shelf.Strconv.ParseIntEmpty
import Derived.Shelf.Strconv.Clone
import Derived.Shelf.Strconv.SyntaxError
import Derived.Shelf.LaysC
import Derived.Shelf.Strconv.ToError
import Derived.Shelf.Strconv.Lower
import Derived.Shelf.Strconv.ParseUint10
import Derived.Shelf.Strconv.ParseUint10Empty
import Derived.Shelf.Strconv.ParseUint10Any
import Derived.Shelf.Strconv.ParseInt10
import Derived.Shelf.Strconv.RangeError
import Derived.Shelf.Strconv.ToErrorRange
import Derived.Shelf.Strconv.ParseUintEmpty
import Derived.Shelf.Strconv.ParseUint10b64
import Derived.Shelf.Strconv.ParseUint10b32
import Derived.Shelf.Strconv.ParseUint10b16
import Derived.Shelf.Strconv.ParseUint10b8
import Derived.Shelf.Strconv.ParseUint10At
import Derived.Shelf.Strconv.ParseInt10At64
import Derived.Shelf.Strconv.ParseInt10At32
import Derived.Shelf.Strconv.ParseInt10At16
import Derived.Shelf.Strconv.ParseInt10At8
import Derived.Shelf.Strconv.ParseInt10All
import Derived.Shelf.Strconv.ParseIntPublic10
import Derived.Shelf.Strconv.ErrVarParseInt
import Derived.Shelf.Strings.Search1
import Derived.Test.YtdfhdhoofofenaaGreatDoorProg
set_option linter.unusedSimpArgs false
set_option linter.unusedVariables false
set_option maxRecDepth 20000
namespace Lx
open Go
open Lg (Tok Tree)
open Go.Proofs (Tryz.prog)
open Go.Proofs.Tryz
def prefS : Spec := fun ys bx Kr _ => ∃ l p : Bs, ys = [.d (.st l), .d (.st p)] ∧ Kr (.d (.bool (p.isPrefixOf l))) nix none
theorem zz6 {p l : Bs} (h : p.length ≤ l.length) : p.isPrefixOf l = ((l.take p.length).drop 0 == p) := by
 rw [List.drop_zero, Bool.eq_iff_iff, beq_iff_eq, List.isPrefixOf_iff_prefix, List.prefix_iff_eq_take]
 exact ⟨fun h => h.symm, fun h => h.symm⟩
theorem zz7 {p l : Bs} (h : l.length < p.length) : p.isPrefixOf l = false := by
 rw [Bool.eq_false_iff]
 intro e
 rw [List.isPrefixOf_iff_prefix] at e
 have := e.length_le
 omega
theorem pref75_OK : OK Tryz.prog 84 prefS := by
 refine fn_OK' qzu (E := EV) (sp := spL []) qzt qzm (OKs.ok trivial) func84 rfl ntmps84 results84 call84 [] none ?_
 rintro ys bx Kr Kp ⟨l, p, rfl, hK⟩
 refine ⟨[], rfl, trivial, by simp, ?_⟩
 simp only [Int.toNat_natCast, go_sem, push_cast, seval]
 refine ⟨fun h => ?_, fun h => ?_⟩
 · have hle : p.length ≤ l.length := by have := of_decide_eq_true h; omega
   rw [zz6 hle] at hK
   exact ⟨by omega, by omega, _, qzc (.rfl _), hK⟩
 · have hlt : l.length < p.length := by have := of_decide_eq_false h; omega
   rw [zz7 hlt] at hK
   exact ⟨_, qzc (.rfl _), hK⟩
theorem pref_OK : OK Tryz.prog 66 prefS := by
 refine fn_OK' qzu (E := EV) (sp := spL [(84, prefS)]) qzt qzm (OKs.ok ⟨pref75_OK, trivial⟩) func66 rfl ntmps66 results66 call66 [] none ?_
 rintro ys bx Kr Kp ⟨l, p, rfl, hK⟩
 refine ⟨[], rfl, trivial, by simp, ?_⟩
 simp only [go_sem, push_cast, seval]
 refine ⟨l, p, rfl, ?_⟩
 simp only [go_sem, push_cast, seval]
 exact ⟨_, qzc (.rfl _), hK⟩
def idxS : Spec := fun ys bx Kr _ => ∃ (l : Bs) (c : UInt8), ys = [.d (.st l), .d (.int .u8 (c.toNat : Int))] ∧ ∀ i : Int, (0 ≤ i ↔ l.contains c = true) → Kr (.d (.int .i64 i)) nix none
def sgn3 : Nat → Bs
 | 0 => Lg.zqt
 | 1 => Lg.sLe
 | _ => Lg.sEq2
def zxn (l : Bs) : Nat → Bs
 | 0 => Lg.sign l
 | 1 => if Lg.sLe.isPrefixOf l then Lg.sLe else if Lg.sEq2.isPrefixOf l then Lg.sEq2 else match l with
   | [] => []
   | b :: _ => if Lg.signs.contains b then [b] else []
 | 2 => if Lg.sEq2.isPrefixOf l then Lg.sEq2 else match l with
   | [] => []
   | b :: _ => if Lg.signs.contains b then [b] else []
 | _ => match l with
   | [] => []
   | b :: _ => if Lg.signs.contains b then [b] else []
theorem zk6 (l : Bs) {i : Nat} (h : i < 3) : zxn l i = if (sgn3 i).isPrefixOf l then sgn3 i else zxn l (i + 1) := by
 match i, h with
 | 0, _ => rfl
 | 1, _ => rfl
 | 2, _ => rfl
def signS : Spec := fun ys bx Kr _ => ∃ l : Bs, ys = [.d (.st l)] ∧ l ≠ [] ∧ Kr (.d (.st (Lg.sign l))) nix none
theorem sign_OK (hidx : OK Tryz.prog 67 idxS) : OK Tryz.prog 38 signS := by
 refine fn_OK' qzu (E := EV) (sp := spL [(66, prefS), (67, idxS)]) qzt qzm (OKs.ok ⟨pref_OK, ⟨hidx, trivial⟩⟩) func38 rfl ntmps38 results38 call38 [] none ?_
 rintro ys bx Kr Kp ⟨l, rfl, hne, hK⟩
 refine ⟨[], rfl, trivial, by simp, ?_⟩
 simp only [go_sem, push_cast, seval]
 refine qzk (T := { i : Nat // i ≤ 3 ∧ Kr (.d (.st (zxn l i))) nix none })
  (fun i => ⟨20, put 0 (.d (.st l)) (put 5 (.d (.ag [.st [45, 62], .st [60, 61], .st [61, 61]])) (put 6 (.d (.int .i64 i.1)) nix)), nix, nix⟩) (fun i => 3 - i.1) ⟨0, by omega, hK⟩
  ⟨rfl, qza rfl (qza rfl (qza rfl qzb)), qzb, fun _ _ h => h⟩ ?_
 rintro ⟨i, hi, hK⟩
 simp only [go_sem, push_cast, seval]
 refine ⟨fun h => ?_, fun h => ?_⟩
 · have h3 : i < 3 := by have := of_decide_eq_true h; omega
   have e : ([.d (.st [45, 62]), .d (.st [60, 61]), .d (.st [61, 61])] : List LV)[(i : Int).toNat * 1]? = some (.d (.st (sgn3 i))) := by
    match i, h3 with
    | 0, _ => rfl
    | 1, _ => rfl
    | 2, _ => rfl
   refine ⟨by omega, by omega, sm_use e ?_⟩
   rw [zk6 l h3] at hK
   simp only [go_sem, push_cast, seval]
   refine ⟨l, sgn3 i, rfl, ?_⟩
   simp only [go_sem, push_cast, seval]
   refine ⟨fun h => ?_, fun h => ?_⟩
   · rw [if_pos h] at hK
     exact ⟨_, qzc (.rfl _), hK⟩
   · rw [if_neg (by rw [h]; decide)] at hK
     exact ⟨⟨by omega, by omega⟩, ⟨i + 1, by omega, hK⟩, ⟨rfl, qza rfl (qza rfl (qza rfl qzb)), qzb, fun _ _ h => h⟩, by show 3 - (i + 1) < 3 - i; omega⟩
 · have h3 : i = 3 := by have := of_decide_eq_false h; omega
   subst h3
   obtain ⟨b, r, rfl⟩ : ∃ b r, l = b :: r := by
    cases l with
    | nil => exact absurd rfl hne
    | cons b r => exact ⟨b, r, rfl⟩
   replace hK : Kr (.d (.st (if Lg.signs.contains b then [b] else []))) nix none := hK
   simp only [go_sem, push_cast, seval]
   refine ⟨by omega, Lg.signs, b, rfl, fun i hi => ?_⟩
   simp only [go_sem, push_cast, seval]
   refine ⟨fun h => ?_, fun h => ?_⟩
   · rw [if_pos (hi.1 (by have := of_decide_eq_true h; omega))] at hK
     exact ⟨by omega, _, qzc (.rfl _), hK⟩
   · rw [if_neg (fun e => by have := of_decide_eq_false h; have := hi.2 e; omega)] at hK
     exact ⟨_, qzc (.rfl _), hK⟩
def pintS : Spec := fun ys bx Kr _ => ∃ l : Bs, ys = [.d (.st l), .d (.int .i64 10), .d (.int .i64 64)] ∧ l ≠ [] ∧ l.all Lg.qqu = true ∧ l.length ≤ 16777216 ∧
 (Lg.dec l ≤ 9223372036854775807 → Kr (.tup [.d (.int .i64 (Lg.dec l)), .d (.imm .nilIface)]) nix none) ∧
 (9223372036854775807 < Lg.dec l → ∀ (n : Int) (t : TypeId) (x : D), Kr (.tup [.d (.int .i64 n), .d (.ifc t x)]) nix none)
def numberS : Spec := fun ys bx Kr _ => ∃ (l : Bs) (i j : Nat), ys = [.d (.st l), .d (.int .i64 i), .d (.int .i64 j)] ∧ i < j ∧ j ≤ l.length ∧ l.length ≤ 16777216 ∧ ((l.take j).drop i).all Lg.qqu = true ∧
 ((decide (1099511627776 < Lg.dec ((l.take j).drop i)) || (decide (1 < j - i) && l[i]? == some 48) || Lg.qv8 (l.drop j)) = true → Kr (.tup [.d (tokD ⟨0, [], 0, 0⟩), .d (.int .i64 12)]) nix none) ∧
 ((decide (1099511627776 < Lg.dec ((l.take j).drop i)) || (decide (1 < j - i) && l[i]? == some 48) || Lg.qv8 (l.drop j)) = false → Kr (.tup [.d (tokD ⟨3, (l.take j).drop i, Lg.dec ((l.take j).drop i), i⟩), .d (.int .i64 0)]) nix none)
theorem qv9 {α : Type} {o : Option α} {x : α} {K : α → Prop} {w : Ph K} (h : o = some x) (hk : K x) : gets o K w := by
 subst h; rw [gets_some]; exact hk
theorem zvi (hpi : OK Tryz.prog 64 pintS) : OK Tryz.prog 34 numberS := by
 refine fn_OK' qzu (E := EV) (sp := spL [(64, pintS), (35, (qvm Lg.qv7))]) qzt qzm (OKs.ok ⟨hpi, ⟨zz1, trivial⟩⟩) func34 rfl ntmps34 results34 call34 [] none ?_
 rintro ys bx Kr Kp ⟨l, i, j, rfl, hi, hj, hl, hall, hK1, hK2⟩
 refine ⟨[], rfl, trivial, by simp, ?_⟩
 have hlen : ((l.take j).drop i).length = j - i := by simp; omega
 simp only [Int.toNat_natCast, go_sem, push_cast, seval]
 refine ⟨by omega, by omega, by omega, by omega, (l.take j).drop i, rfl, ?_, hall, by omega, fun hd => ?_, fun hd n t x => ?_⟩
 · intro e; rw [e] at hlen; simp at hlen; omega
 · simp only [go_sem, push_cast, seval]
   refine ⟨fun h => ?_, fun h => ?_⟩
   · rw [show decide (1099511627776 < Lg.dec ((l.take j).drop i)) = true by rw [decide_eq_true_eq] at h ⊢; omega] at hK1
     exact ⟨_, .cons (.rfl _) (.cons (.rfl _) .nil), hK1 (by simp)⟩
   · have hb : decide (1099511627776 < Lg.dec ((l.take j).drop i)) = false := by rw [decide_eq_false_iff_not] at h ⊢; omega
     rw [hb] at hK1 hK2
     have h0 : 1 < j - i → ((l.take j).drop i)[0]? = l[i]? := fun h => by
      rw [List.getElem?_drop, List.getElem?_take]; simp; omega
     have hhd : ∀ h : j < l.length, Lg.qv8 (l.drop j) = Lg.qv7 l[j] := fun h => by
      rw [List.drop_eq_getElem_cons h]; rfl
     have hnd : ¬ j < l.length → Lg.qv8 (l.drop j) = false := fun h => by
      rw [List.drop_eq_nil_of_le (by omega)]; rfl
     refine ⟨fun h1 => ?_, fun h1 => ?_⟩
     · have h1' : 1 < j - i := by have := of_decide_eq_true h1; omega
       have hil : i < l.length := by omega
       refine ⟨by omega, qv9 ((h0 h1').trans (List.getElem?_eq_getElem hil)) ?_⟩
       rw [List.getElem?_eq_getElem hil, decide_eq_true h1'] at hK1 hK2
       simp only [Int.toNat_natCast, go_sem, push_cast, seval]
       refine ⟨fun h4 => ?_, fun h4 => ?_⟩
       · have : l[i] = 48 := UInt8.toNat_inj.1 (by have := eq_of_beq h4; show l[i].toNat = 48; omega)
         exact ⟨_, .cons (.rfl _) (.cons (.rfl _) .nil), hK1 (by simp [this])⟩
       · have hz : (true && some l[i] == some 48) = false := by
          rw [Bool.true_and, Bool.eq_false_iff]
          intro e
          have e1 : l[i] = 48 := by simpa using e
          rw [e1] at h4
          exact absurd h4 (by decide)
         rw [hz, Bool.or_false, Bool.false_or] at hK1 hK2
         refine ⟨fun h2 => ?_, fun h2 => ?_⟩
         · have hjl : j < l.length := by have := of_decide_eq_true h2; omega
           refine ⟨by omega, by omega, qv9 (List.getElem?_eq_getElem (by simpa using hjl)) ?_⟩
           rw [hhd hjl] at hK1 hK2
           simp only [Int.toNat_natCast, go_sem, push_cast, seval]
           refine ⟨l[j], rfl, ?_⟩
           simp only [Int.toNat_natCast, go_sem, push_cast, seval]
           refine ⟨fun h3 => ?_, fun h3 => ?_⟩
           · exact ⟨_, .cons (.rfl _) (.cons (.rfl _) .nil), hK1 h3⟩
           · exact ⟨_, .cons (.rfl _) (.cons (.rfl _) .nil), hK2 h3⟩
         · have hjl : ¬ j < l.length := by have := of_decide_eq_false h2; omega
           exact ⟨_, .cons (.rfl _) (.cons (.rfl _) .nil), hK2 (hnd hjl)⟩
     · have h1' : ¬ 1 < j - i := by have := of_decide_eq_false h1; omega
       have hz : (decide (1 < j - i) && l[i]? == some 48) = false := by rw [decide_eq_false h1']; rfl
       rw [hz, Bool.or_false, Bool.false_or] at hK1 hK2
       refine ⟨fun h2 => ?_, fun h2 => ?_⟩
       · have hjl : j < l.length := by have := of_decide_eq_true h2; omega
         refine ⟨by omega, by omega, qv9 (List.getElem?_eq_getElem (by simpa using hjl)) ?_⟩
         rw [hhd hjl] at hK1 hK2
         simp only [Int.toNat_natCast, go_sem, push_cast, seval]
         refine ⟨l[j], rfl, ?_⟩
         simp only [Int.toNat_natCast, go_sem, push_cast, seval]
         refine ⟨fun h3 => ?_, fun h3 => ?_⟩
         · exact ⟨_, .cons (.rfl _) (.cons (.rfl _) .nil), hK1 h3⟩
         · exact ⟨_, .cons (.rfl _) (.cons (.rfl _) .nil), hK2 h3⟩
       · have hjl : ¬ j < l.length := by have := of_decide_eq_false h2; omega
         exact ⟨_, .cons (.rfl _) (.cons (.rfl _) .nil), hK2 (hnd hjl)⟩
 · rw [show decide (1099511627776 < Lg.dec ((l.take j).drop i)) = true by rw [decide_eq_true_eq]; omega] at hK1
   simp only [go_sem, push_cast, seval]
   exact ⟨_, .cons (.rfl _) (.cons (.rfl _) .nil), hK1 (by simp)⟩
def toksS : Spec := fun ys bx Kr _ => ∃ l, ys = [.d (.st l)] ∧ match Lg.toks l with
 | .ok ts => Good ts → Kr (.tup [.d (.sl 4 (ts.map tokD) false), .d (.int .i64 0), .d (.int .i64 0)]) nix none
 | .error (a, c) => c ≠ 0 → Kr (.tup [.d (.sl 4 [] false), .d (.int .i64 a), .d (.int .i64 c)]) nix none
end Lx
namespace Go.Proofs
open Go.Shelf
def Tryz.lays137_ren : Go.Shelf.Ren := ⟨fun | 137 => 67 | 217 => 85 | 266 => 111 | n => n, fun | 9 => 9 | 5 => 5 | 3 => 3 | n => n, fun | n => n⟩
theorem Tryz.lays137 : Go.Proofs.Lays.n137 Tryz.prog Tryz.lays137_ren := {
 mixed := by kernel_rfl
 f137 := Tryz.func67.trans (congrArg some (by kernel_rfl))
 f217 := Tryz.func85.trans (congrArg some (by kernel_rfl))
 f266 := Tryz.func111.trans (congrArg some (by kernel_rfl))
 t3 := Tryz.underlying3
 a3 := Tryz.isAgg3
 z3 := Tryz.sizeOf3
 v3 := Tryz.zeroValue3
 t5 := Tryz.underlying5
 a5 := Tryz.isAgg5
 z5 := Tryz.sizeOf5
 v5 := Tryz.zeroValue5
 t9 := Tryz.underlying9
 a9 := Tryz.isAgg9
 z9 := Tryz.sizeOf9
 v9 := Tryz.zeroValue9 }
open Go.RowKit in
theorem Tryz.strings_IndexByte (s : ByteArray) (c : Int) (w : World) :
  Calls Tryz.prog 67 #[.string s, .int .u8 c] w fun e w' => e = .returned (.int .i64 (Lib.indexByte s.data.toList c.toNat.toUInt8)) ∧ w' = w := Any.strings_IndexByte Tryz.lays137 s c w
def Tryz.laysC174_ren : Go.Shelf.Ren := ⟨fun | 174 => 64 | 247 => 82 | 245 => 83 | 287 => 106 | 279 => 107 | 280 => 108 | 281 => 109 | 282 => 110 | 321 => 115 | 322 => 116 | 316 => 117 | 171 => 119 | 205 => 118 | 243 => 120 | 246 => 121 | 283 => 122 | 284 => 123 | 285 => 124 | 286 => 125 | 129 => 127 | 317 => 126 | 318 => 128 | 319 => 129 | 320 => 130 | 337 => 131 | 338 => 132 | n => n, fun | 9 => 9 | 3 => 3 | 2 => 2 | 75 => 124 | 85 => 125 | 4 => 4 | 167 => 149 | 5 => 5 | 53 => 150 | 175 => 151 | 46 => 153 | 168 => 154 | 37 => 159 | 0 => 0 | 210 => 161 | 21 => 21 | 127 => 165 | 145 => 168 | 143 => 166 | 171 => 170 | 173 => 173 | 212 => 177 | 51 => 178 | 20 => 20 | 213 => 179 | 232 => 183 | 233 => 184 | 80 => 130 | n => n, fun | 15 => 0 | 16 => 1 | 17 => 3 | 18 => 4 | 19 => 5 | n => n⟩
theorem Tryz.laysC174 : Go.Proofs.LaysC.n174 Tryz.prog Tryz.laysC174_ren := {
 mixed := by kernel_rfl
 f129 := Tryz.func127.trans (congrArg some (by kernel_rfl))
 f171 := Tryz.func119.trans (congrArg some (by kernel_rfl))
 f174 := Tryz.func64.trans (congrArg some (by kernel_rfl))
 f205 := Tryz.func118.trans (congrArg some (by kernel_rfl))
 f243 := Tryz.func120.trans (congrArg some (by kernel_rfl))
 f245 := Tryz.func83.trans (congrArg some (by kernel_rfl))
 f246 := Tryz.func121.trans (congrArg some (by kernel_rfl))
 f247 := Tryz.func82.trans (congrArg some (by kernel_rfl))
 f279 := Tryz.func107.trans (congrArg some (by kernel_rfl))
 f280 := Tryz.func108.trans (congrArg some (by kernel_rfl))
 f281 := Tryz.func109.trans (congrArg some (by kernel_rfl))
 f282 := Tryz.func110.trans (congrArg some (by kernel_rfl))
 f283 := Tryz.func122.trans (congrArg some (by kernel_rfl))
 f284 := Tryz.func123.trans (congrArg some (by kernel_rfl))
 f285 := Tryz.func124.trans (congrArg some (by kernel_rfl))
 f286 := Tryz.func125.trans (congrArg some (by kernel_rfl))
 f287 := Tryz.func106.trans (congrArg some (by kernel_rfl))
 f316 := Tryz.func117.trans (congrArg some (by kernel_rfl))
 f317 := Tryz.func126.trans (congrArg some (by kernel_rfl))
 f318 := Tryz.func128.trans (congrArg some (by kernel_rfl))
 f319 := Tryz.func129.trans (congrArg some (by kernel_rfl))
 f320 := Tryz.func130.trans (congrArg some (by kernel_rfl))
 f321 := Tryz.func115.trans (congrArg some (by kernel_rfl))
 f322 := Tryz.func116.trans (congrArg some (by kernel_rfl))
 f337 := Tryz.func131.trans (congrArg some (by kernel_rfl))
 f338 := Tryz.func132.trans (congrArg some (by kernel_rfl))
 t0 := Tryz.underlying0
 a0 := Tryz.isAgg0
 z0 := Tryz.sizeOf0
 v0 := Tryz.zeroValue0
 t2 := Tryz.underlying2
 a2 := Tryz.isAgg2
 z2 := Tryz.sizeOf2
 v2 := Tryz.zeroValue2
 t3 := Tryz.underlying3
 a3 := Tryz.isAgg3
 z3 := Tryz.sizeOf3
 v3 := Tryz.zeroValue3
 t4 := Tryz.underlying4
 a4 := Tryz.isAgg4
 z4 := Tryz.sizeOf4
 v4 := Tryz.zeroValue4
 t5 := Tryz.underlying5
 a5 := Tryz.isAgg5
 z5 := Tryz.sizeOf5
 v5 := Tryz.zeroValue5
 t9 := Tryz.underlying9
 a9 := Tryz.isAgg9
 z9 := Tryz.sizeOf9
 v9 := Tryz.zeroValue9
 t20 := Tryz.underlying20
 a20 := Tryz.isAgg20
 z20 := Tryz.sizeOf20
 v20 := Tryz.zeroValue20
 t21 := Tryz.underlying21
 a21 := Tryz.isAgg21
 z21 := Tryz.sizeOf21
 v21 := Tryz.zeroValue21
 t37 := Tryz.underlying159
 a37 := Tryz.isAgg159
 z37 := Tryz.sizeOf159
 v37 := Tryz.zeroValue159
 t46 := Tryz.underlying153
 a46 := Tryz.isAgg153
 z46 := Tryz.sizeOf153
 v46 := Tryz.zeroValue153
 t51 := Tryz.underlying178
 a51 := Tryz.isAgg178
 z51 := Tryz.sizeOf178
 v51 := Tryz.zeroValue178
 t53 := Tryz.underlying150
 a53 := Tryz.isAgg150
 z53 := Tryz.sizeOf150
 v53 := Tryz.zeroValue150
 t75 := Tryz.underlying124
 a75 := Tryz.isAgg124
 z75 := Tryz.sizeOf124
 v75 := Tryz.zeroValue124
 t85 := Tryz.underlying125
 a85 := Tryz.isAgg125
 z85 := Tryz.sizeOf125
 v85 := Tryz.zeroValue125
 t127 := Tryz.underlying165
 a127 := Tryz.isAgg165
 z127 := Tryz.sizeOf165
 v127 := Tryz.zeroValue165
 t143 := Tryz.underlying166
 a143 := Tryz.isAgg166
 z143 := Tryz.sizeOf166
 v143 := Tryz.zeroValue166
 t145 := Tryz.underlying168
 a145 := Tryz.isAgg168
 z145 := Tryz.sizeOf168
 v145 := Tryz.zeroValue168
 t167 := Tryz.underlying149
 a167 := Tryz.isAgg149
 z167 := Tryz.sizeOf149
 v167 := Tryz.zeroValue149
 t168 := Tryz.underlying154
 a168 := Tryz.isAgg154
 z168 := Tryz.sizeOf154
 v168 := Tryz.zeroValue154
 t171 := Tryz.underlying170
 a171 := Tryz.isAgg170
 z171 := Tryz.sizeOf170
 v171 := Tryz.zeroValue170
 t173 := Tryz.underlying173
 a173 := Tryz.isAgg173
 z173 := Tryz.sizeOf173
 v173 := Tryz.zeroValue173
 t175 := Tryz.underlying151
 a175 := Tryz.isAgg151
 z175 := Tryz.sizeOf151
 v175 := Tryz.zeroValue151
 t210 := Tryz.underlying161
 a210 := Tryz.isAgg161
 z210 := Tryz.sizeOf161
 v210 := Tryz.zeroValue161
 t212 := Tryz.underlying177
 a212 := Tryz.isAgg177
 z212 := Tryz.sizeOf177
 v212 := Tryz.zeroValue177
 t213 := Tryz.underlying179
 a213 := Tryz.isAgg179
 z213 := Tryz.sizeOf179
 t232 := Tryz.underlying183
 a232 := Tryz.isAgg183
 z232 := Tryz.sizeOf183
 v232 := Tryz.zeroValue183
 t233 := Tryz.underlying184
 a233 := Tryz.isAgg184
 z233 := Tryz.sizeOf184
 v233 := Tryz.zeroValue184
 g15 := by kernel_rfl
 g16 := by kernel_rfl
 g17 := by kernel_rfl
 g18 := by kernel_rfl
 g19 := by kernel_rfl
 t80 := Tryz.underlying130
 a80 := Tryz.isAgg130
 z80 := Tryz.sizeOf130
 v80 := Tryz.zeroValue130
 i0 := by kernel_rfl
 i2 := by kernel_rfl
 i3 := by kernel_rfl
 i4 := by kernel_rfl
 i5 := by kernel_rfl
 i9 := by kernel_rfl
 i20 := by kernel_rfl
 i21 := by kernel_rfl
 i37 := by kernel_rfl
 i46 := by kernel_rfl
 i51 := by kernel_rfl
 i53 := by kernel_rfl
 i75 := by kernel_rfl
 i80 := by kernel_rfl
 i85 := by kernel_rfl
 i127 := by kernel_rfl
 i143 := by kernel_rfl
 i145 := by kernel_rfl
 i167 := by kernel_rfl
 i168 := by kernel_rfl
 i171 := by kernel_rfl
 i173 := by kernel_rfl
 i175 := by kernel_rfl
 i210 := by kernel_rfl
 i212 := by kernel_rfl
 i232 := by kernel_rfl
 i233 := by kernel_rfl
 m15 := by kernel_rfl
 m16 := by kernel_rfl
 m17 := by kernel_rfl
 m18 := by kernel_rfl
 m19 := by kernel_rfl
 c0 := by kernel_rfl
 c2 := by kernel_rfl
 c3 := by kernel_rfl
 c4 := by kernel_rfl
 c5 := by kernel_rfl
 c9 := by kernel_rfl
 c20 := by kernel_rfl
 c21 := by kernel_rfl
 c37 := by kernel_rfl
 c46 := by kernel_rfl
 c51 := by kernel_rfl
 c53 := by kernel_rfl
 c75 := by kernel_rfl
 c80 := by kernel_rfl
 c85 := by kernel_rfl
 c127 := by kernel_rfl
 c143 := by kernel_rfl
 c145 := by kernel_rfl
 c167 := by kernel_rfl
 c168 := by kernel_rfl
 c171 := by kernel_rfl
 c173 := by kernel_rfl
 c175 := by kernel_rfl
 c210 := by kernel_rfl
 c212 := by kernel_rfl
 c213 := by kernel_rfl
 c232 := by kernel_rfl
 c233 := by kernel_rfl }
open Go.RowKit in
theorem Tryz.strconv_ParseInt_10_at64_ok (s : ByteArray) (hmax : s.size ≤ 9223372036854775806) (v : Int) (h : Lib.parseIntB 64 s.data.toList = .ok v) (w : World) :
  Calls Tryz.prog 64 #[.string s, .int .i64 10, .int .i64 64] w fun e w' => e = .returned (.tuple #[.int .i64 v, .nilIface]) ∧ (w' = w ∨ ∃ t, w' = Lib.bytesWorld w 5 t) := Any.strconv_ParseInt_10_at64_ok Tryz.laysC174 s hmax v h w
open Go.RowKit in
theorem Tryz.strconv_ParseInt_10_at64_range (s : ByteArray) (hlim : s.size ≤ 281474976710656) (h : Lib.parseIntB 64 s.data.toList = .range) (ev : Value) (w : World) (hv : w.cell? ⟨1, 0, none⟩ = some ev) (hev : ev = .nilIface ∨ ∃ te pe, ev = .iface te pe) :
  Calls Tryz.prog 64 #[.string s, .int .i64 10, .int .i64 64] w fun e w' => ∃ N, e = .returned (.tuple #[.int .i64 (Lib.intSat 64 s.data.toList), .iface 154 (.pointer (some ⟨N, 0, none⟩))]) ∧ w.heap.size ≤ N ∧ w'.heap[N]? = some (.cells #[.string ⟨#[80, 97, 114, 115, 101, 73, 110, 116]⟩, .string s, ev] 161 (0, 0)) ∧ Below w.heap.size w w' := Any.strconv_ParseInt_10_at64_range Tryz.laysC174 s hlim h ev w hv hev
end Go.Proofs
