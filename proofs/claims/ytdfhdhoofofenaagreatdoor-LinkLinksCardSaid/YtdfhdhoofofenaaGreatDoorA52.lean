import Derived.Test.YtdfhdhoofofenaaGreatDoorA49
import Derived.Test.YtdfhdhoofofenaaGreatDoorA51
import Derived.Test.YtdfhdhoofofenaaGreatDoorA30
import Derived.Test.YtdfhdhoofofenaaGreatDoorA43
import Derived.Test.YtdfhdhoofofenaaGreatDoorA47
import Derived.Test.YtdfhdhoofofenaaGreatDoorA48
import Derived.Test.YtdfhdhoofofenaaGreatDoorCards
import Derived.Test.YtdfhdhoofofenaaGreatDoorTie
import Derived.WalkKit
import Derived.SizedLaws
import Derived.ProofKit
import Derived.OpenShut
import Derived.Deep.DeepHandedRow
import Derived.Deep.DeepWitnessRowRef
import Derived.Lib.LaidIn
import Derived.Stop.LaidErr
import Derived.Lib.LaidTab
set_option linter.unusedVariables false
namespace Lg
theorem toks_ok {l : Bs} {ts : List Tok} (h : toks l = .ok ts) : l.length ≤ 16384 ∧ lex 0 l = .ok ts := by
 unfold toks at h
 split at h
 · cases h
 · exact ⟨by omega, h⟩
theorem toks_err {l : Bs} {a c : Int} (h : toks l = .error (a, c)) : c = 10 ∨ c = 11 ∨ c = 12 ∨ c = 13 := by
 unfold toks at h
 split at h
 · cases h; exact .inl rfl
 · exact .inr (zx1 _ _ _ (Nat.le_refl _) _ _ h).1
theorem tks_map {ρ : Int → Int → Prop} {f : Tok → Tok} : ∀ {ts : List Tok}, (∀ t ∈ ts, TkR ρ t (f t)) → TksR ρ ts (ts.map f)
 | [], _ => .nil
 | t :: ts, h => .cons (h t List.mem_cons_self) (tks_map fun u hu => h u (List.mem_cons_of_mem _ hu))
theorem parse_code {l : Bs} {a c : Int} (h : parse l = .error (a, c)) : c ≠ 0 := by
 unfold parse at h
 cases ht : toks l with
 | error e => rw [ht] at h; cases h; have := toks_err ht; omega
 | ok ts =>
   rw [ht] at h
   simp only at h
   have hS : St (fun _ _ => True) ts (ts.map id) := ⟨tks_map fun t _ => ⟨rfl, rfl, rfl, trivial⟩, (lex_c (toks_ok ht).2).props.endy⟩
   rcases zvf hS with ⟨p, q, c', e1, _, hc, _⟩ | ⟨_, _, e1, _⟩
   · rw [h] at e1; cases e1; exact hc
   · rw [h] at e1; cases e1
end Lg
set_option linter.unusedSimpArgs false
set_option maxRecDepth 20000
namespace Lx
open Go
open Lg (Tok Tree Trm Inst Cod Img)
open Go.Proofs (Tryz.prog)
open Go.Proofs.Tryz
theorem parse_cd {l : List UInt8} {a c : Int} (h : Lg.parse l = .error (a, c)) : (c != 0) = true := by simp; exact Lg.parse_code h
theorem parseL {l : List UInt8} {ys : List LV} {bx : Bx} {Kr : LV → Bx → Ar1 → Prop} {Kp : D → Bx → Prop} (hy : ys = [.d (.st l)])
  (h : ∀ (t : Tree) (a c : Int), Lg.size t ≤ 4096 → ((c != 0) = false ∧ Lg.parse l = .ok t ∨ (c != 0) = true) → Kr (.tup [.d (qzl t), .d (.int .i64 a), .d (.int .i64 c)]) nix none) : qwy ys bx Kr Kp := by
 refine ⟨l, hy, ?_⟩
 cases hp : Lg.parse l with
 | error q => exact h _ q.1 q.2 (by decide) (.inr (parse_cd hp))
 | ok t => exact h t 0 0 (Lg.parse_well hp).2 (.inl ⟨rfl, hp⟩)
theorem zwv {l : List UInt8} {t : Tree} {ys : List LV} {bx : Bx} {Kr : LV → Bx → Ar1 → Prop} {Kp : D → Bx → Prop} (hy : ys = [.d (.st l)]) (hp : Lg.parse l = .ok t)
  (h : Kr (.tup [.d (qzl t), .d (.int .i64 0), .d (.int .i64 0)]) nix none) : qwy ys bx Kr Kp := by
 refine ⟨l, hy, ?_⟩
 rw [hp]
 exact h
theorem zxc {n : Tree} (hn : Lg.size n ≤ 4096) : ∀ c ∈ (Lg.fns n).map Lg.qkc, c.params.length ≤ 4096 ∧ c.list.length ≤ 100000 ∧ ∀ i ∈ c.list, i.args.length ≤ 4096 := by
 intro c hc
 obtain ⟨f, hf, rfl⟩ := List.mem_map.1 hc
 obtain ⟨x, hx, rfl⟩ := List.getElem_of_mem hf
 have h1 := qju (Lg.fns n)[x]
 have h2 := zx7 hx
 have h3 := Lg.lowerT_params (Lg.fns n)[x]
 refine ⟨by omega, by omega, fun i hi => ?_⟩
 have h4 := Lg.lowerT_args (Lg.fns n)[x] i hi
 omega
def trueK7 : Spec := fun ys bx Kr _ => ∃ l m : List UInt8, ys = [.d (.st l), .d (.st m)] ∧ l.length ≤ 140737488351232 ∧ m.length ≤ 140737488351232 ∧ Kr (.d (.bool true)) nix none
theorem lawLinks_OK_of {l m : List UInt8} {Kr : LV → Bx → Ar1 → Prop} {Kp : D → Bx → Prop} {bx : Bx} (h1 : l.length ≤ 140737488351232) (h2 : m.length ≤ 140737488351232) (hK : Kr (.d (.bool true)) nix none) : trueK7 [.d (.st l), .d (.st m)] bx Kr Kp := ⟨l, m, rfl, h1, h2, hK⟩
set_option maxHeartbeats 8000000 in
theorem lawLinks_OK : OK Tryz.prog 3 trueK7 := by
 refine fn_OK' qzu (E := EV) (sp := spL [(4, qwy), (5, wakeK), (6, linkS), (7, qwy), (8, rlinkS), (9, rsameCS)]) qzt qzm (OKs.ok ⟨Parse_OK, ⟨wakeK_OK, ⟨link_OK, ⟨rparse_OK, ⟨rlink_OK, ⟨rsameC_OK, trivial⟩⟩⟩⟩⟩⟩) func3 rfl ntmps3 results3 call3 [] none ?_
 rintro ys bx Kr Kp ⟨l, m, rfl, hl, hm, hK⟩
 refine ⟨[], rfl, trivial, by simp, ?_⟩
 simp only [go_sem, push_cast, seval]
 refine parseL rfl fun a p1 c1 hsa h1 => ?_
 simp only [go_sem, push_cast, seval]
 refine parseL rfl fun b p2 c2 hsb h2 => ?_
 simp only [go_sem, push_cast, seval]
 refine ⟨rfl, ?_⟩
 by_cases hall : (c1 != 0) = false ∧ (c2 != 0) = false
 rotate_left
 · rcases h1 with ⟨e1, h1⟩ | e1 <;> rcases h2 with ⟨e2, h2⟩ | e2
   · exact absurd ⟨e1, e2⟩ hall
   all_goals
    clear hall
    simp only [e1, e2, Bool.not_true, bne_self_eq_false, beq_self_eq_true, Bool.false_eq_true, Bool.true_eq_false, false_implies, true_implies, true_and, and_true, eq_self, go_sem, push_cast, seval]
    refine ⟨rfl, ?_⟩
    simp only [go_sem, push_cast, seval]
    exact ⟨_, qzc (.rfl _), hK⟩
 obtain ⟨e1, e2⟩ := hall
 have h1 : Lg.parse l = .ok a := by
  rcases h1 with ⟨_, h⟩ | h
  · exact h
  · rw [e1] at h; cases h
 have h2 : Lg.parse m = .ok b := by
  rcases h2 with ⟨_, h⟩ | h
  · exact h
  · rw [e2] at h; cases h
 simp only [e1, e2, Bool.not_true, bne_self_eq_false, beq_self_eq_true, Bool.false_eq_true, Bool.true_eq_false, false_implies, true_implies, true_and, and_true, eq_self, go_sem, push_cast, seval]
 refine ⟨a, b, by rw [qzj, qzj], hsa, hsb, ?_⟩
 unfold zxw
 cases hk : Lg.linkR a b with
 | error e =>
   obtain ⟨p, w, c⟩ := e
   simp only [imgD, go_sem, push_cast, seval]
   refine zwv rfl h1 ?_
   simp only [go_sem, push_cast, seval]
   refine zwv rfl h2 ?_
   simp only [go_sem, push_cast, seval]
   refine ⟨a, b, by rw [qzj, qzj], ⟨hsa, hsb⟩, Lg.parse_form h1, Lg.parse_form h2, ?_⟩
   unfold zxw
   rw [hk]
   simp only [imgD, List.map_nil, List.length_nil, bne_self_eq_false, beq_self_eq_true, Bool.false_eq_true, Bool.true_eq_false, false_implies, true_implies, true_and, and_true, eq_self, go_sem, push_cast, seval]
   refine qzk (T := Unit) (fun _ => ⟨132, put 115 (.d (.int .i64 0)) (put 116 (.d (.int .i64 0)) nix), nix, nix⟩) (fun _ => 0) ()
    (qzv (qza rfl (qza rfl qzb)) qzb qzb) ?_
   rintro ⟨⟩
   simp only [go_sem, push_cast, seval]
   exact ⟨fun h => absurd h (by decide), fun _ => ⟨_, qzc (.rfl _), hK⟩⟩
 | ok im =>
   simp only [imgD, go_sem, push_cast, seval]
   refine zwv rfl h1 ?_
   simp only [go_sem, push_cast, seval]
   refine zwv rfl h2 ?_
   simp only [go_sem, push_cast, seval]
   refine ⟨a, b, by rw [qzj, qzj], ⟨hsa, hsb⟩, Lg.parse_form h1, Lg.parse_form h2, ?_⟩
   unfold zxw
   rw [hk]
   simp only [imgD, List.length_map, bne_self_eq_false, beq_self_eq_true, Bool.false_eq_true, Bool.true_eq_false, false_implies, true_implies, true_and, and_true, eq_self, go_sem, push_cast, seval]
   obtain ⟨hcd, _⟩ := Lg.linkR_ok hk
   have hak : a.kids.length ≤ 4096 := by have := qqj a.kids; have := qz4 a; omega
   have hbk : b.kids.length ≤ 4096 := by have := qqj b.kids; have := qz4 b; omega
   have hal := zx8 a
   have hbl := zx8 b
   have hcl : im.codes.length ≤ 8192 := by rw [hcd]; simp only [List.length_append, List.length_map]; omega
   refine qq6 [11, 21] (T := { k : Nat // k ≤ im.codes.length }) (fun k => ⟨132, put 11 (.ep (imgD im) 0) (put 21 (.ep (imgD im) 0) (put 115 (.d (.int .i64 im.codes.length)) (put 116 (.d (.int .i64 k.1)) nix))), nix, nix⟩) (fun k => im.codes.length - k.1) ⟨0, by omega⟩ ?_ ?_
   · simp only [imgD, go_sem, push_cast, seval]
     exact qzv (qza rfl (qza rfl (qza rfl (qza rfl qzb)))) qzb qzb
   rintro ⟨k, hk2⟩
   simp only [go_sem, push_cast, seval]
   refine ⟨fun h => ?_, fun h => ?_⟩
   · have hlt : k < im.codes.length := by have := of_decide_eq_true h; omega
     have hkt : (im.codes.map codD)[k]? = some (codD im.codes[k]) := by rw [List.getElem?_map, List.getElem?_eq_getElem hlt]; rfl
     have hbd : im.codes[k].params.length ≤ 4096 ∧ im.codes[k].list.length ≤ 100000 ∧ ∀ i ∈ im.codes[k].list, i.args.length ≤ 4096 := by
      have hm : im.codes[k] ∈ (Lg.fns a).map Lg.qkc ++ (Lg.fns b).map Lg.qkc := hcd ▸ List.getElem_mem hlt
      rcases List.mem_append.1 hm with hm | hm
      · exact zxc hsa _ hm
      · exact zxc hsb _ hm
     refine qzq [] [] (.take 0 (.take 2 (.take 5 (.take 7 (.rd 1 (.rd 3 (.rd 4 (.rd 6 (.rd 8 (.rd 9 (.all (.cons 10 (.rd 11 .done) .nil)))))))))))) (by kernel_rfl) (by kernel_rfl) ?_
     simp only [imgD, codD, hkt, List.length_map, Int.toNat_natCast, bne_self_eq_false, beq_self_eq_true, Bool.false_eq_true, Bool.true_eq_false, false_implies, true_implies, true_and, and_true, eq_self, go_sem, push_cast, seval]
     refine ⟨by omega, by omega, by omega, by omega, im.codes[k], rfl, hbd.1, hbd.2.1, hbd.2.2, ?_⟩
     simp only [Bool.not_true, bne_self_eq_false, beq_self_eq_true, Bool.false_eq_true, Bool.true_eq_false, false_implies, true_implies, true_and, and_true, eq_self, go_sem, push_cast, seval]
     exact ⟨⟨by omega, by omega⟩, ⟨k + 1, hlt⟩, qzv (qza rfl (qza rfl (qza rfl (qza rfl qzb)))) qzb qzb, by show im.codes.length - (k + 1) < im.codes.length - k; omega⟩
   · exact ⟨_, qzc (.rfl _), hK⟩
end Lx
namespace Go.Proofs.YtdfhdhoofofenaaGreatDoor.linkLinks
open Go Go.ChangeShapes Go.WideShapes Go.ChangeAt Go.RowKit Go.Lib
open Go.ChangeMaps (open_string shut_string)
open Go.Proofs.Tryz
theorem own : ownKnob Tryz.prog.godebug = none := by kernel_rfl
theorem star : "*" ++ "errors.errorString" = "*errors.errorString" := by decide
theorem row166 (u : TypeId) (h : Tryz.prog.typeName? 3 u = some "*errors.errorString") : u = 166 :=
 typeName_ptr_named (nm := "errors.errorString") (by rw [star]; kernel_rfl) (by kernel_rfl) (by decide) u (by rw [star]; exact h)
noncomputable def zz4 (os : Os) : World :=
 let N := (World.settled Tryz.prog os).heap.size
 let w0 := World.holding Tryz.prog os ⟨#[
  .cells #[.string ⟨#[105, 110, 118, 97, 108, 105, 100, 32, 115, 121, 110, 116, 97, 120]⟩] 168, .cells #[.string ⟨#[118, 97, 108, 117, 101, 32, 111, 117, 116, 32, 111, 102, 32, 114, 97, 110, 103, 101]⟩] 168], #[], []⟩
 let put (h : Array Obj) (g : Nat) (cs : Array Value) : Array Obj := h.modify g fun
  | .cells _ t frozen => .cells cs t frozen
  | o => o
 let h0 := put (put w0.heap 0 #[.iface 166 (.pointer (some ⟨N, 0, none⟩))]) 1 #[.iface 166 (.pointer (some ⟨N + 1, 0, none⟩))]
 let h1 := put h0 3 (((List.range 20).map fun i => Value.int .u64 ((10 ^ i : Nat) : Int)).toArray)
 let h2 := put h1 4 (([0, 1, 28, 2, 29, 14, 24, 3, 30, 22, 20, 15, 25, 17, 4, 8, 31, 27, 13, 23, 21, 19, 16, 7, 26, 12, 18, 6, 11, 5, 10, 9].map fun z => Value.int .u8 z).toArray)
 let h3 := put h2 5 (([0, 1, 56, 2, 57, 49, 28, 3, 61, 58, 42, 50, 38, 29, 17, 4, 62, 47, 59, 36, 45, 43, 51, 22, 53, 39, 33, 30, 24, 18, 12, 5, 63, 55, 48, 27, 60, 41, 37, 16, 46, 35, 44, 21, 52, 32, 23, 11, 54, 26, 40, 15, 34, 20, 31, 10, 25, 14, 19, 9, 13, 8, 7, 6].map fun z => Value.int .u8 z).toArray)
 { w0 with heap := h3 }
theorem laid_met (os : Os) (args : Array Value) : laidMet Tryz.prog Rows.linkLinksRow.laid ((zz4 os).forCall (fun _ _ => 0) ⟨#[], args, []⟩).memory :=
 laidMet_of_run' 8 (by kernel_rfl) (by kernel_rfl)
theorem zv2 {W : World} {v : Value} (h : W.var? Tryz.prog "strconv.ErrRange" = some #[v]) : W.cell? ⟨1, 0, none⟩ = some v := by
 unfold World.var? at h
 rw [show Tryz.prog.globalNamed "strconv.ErrRange" = some 1 by kernel_rfl] at h
 simp only [Option.bind_some] at h
 unfold World.cell?
 split at h
 · rename_i e
   rw [e]
   cases h
   rfl
 · cases h
def g0 (v : Value) : Lx.Gh := ⟨fun _ => 0, fun b o => if b = 1 ∧ o = 0 then some v else none, fun _ => (0, 0), fun _ => none⟩
theorem wd0 {W : World} {t : TypeId} {a : Addr} (h : W.cell? ⟨1, 0, none⟩ = some (.iface t (.pointer (some a)))) : Lx.Wd (g0 (.iface t (.pointer (some a)))) Lx.nix Lx.nix W where
 box := fun k b e => by cases e
 arr := fun r sz ty xs e => by cases e
 len := fun r => rfl
 fx := by
  refine ⟨fun b o v e => ?_, ⟨(t, .pointer (some a)), rfl⟩⟩
  simp only [g0] at e
  split at e
  · rename_i hb
    obtain ⟨rfl, rfl⟩ := hb
    cases e
    exact ⟨h, rfl⟩
  · cases e
 inj := fun k k' b b' e => by cases e
 inja := fun r r' a a' e => by cases e
 injb := fun k r b a e => by cases e
 outb := fun k b o e => by cases e
 outa := fun r a o e _ => by cases e
theorem below_of {g : Lx.Gh} {W w' : World} (h : Lx.Fr (Lx.qk7 g Lx.nix) W w') : Below W.heap.size W w' :=
 ⟨h.os, h.tape, h.output, h.size, fun k hk => h.block k hk (fun ⟨_, _, e, _⟩ => by cases e)⟩
theorem walk (s0 : ByteArray) (s1 : ByteArray) (W : World) {t : TypeId} {a : Addr} (h : W.cell? ⟨1, 0, none⟩ = some (.iface t (.pointer (some a)))) (hb0 : s0.data.toList.length ≤ 140737488351232) (hb1 : s1.data.toList.length ≤ 140737488351232) :
  Calls Tryz.prog 3 #[.string s0, .string s1] W fun e w' => e = .returned (.bool true) ∧ Below W.heap.size W w' := by
 have hv : Lx.LRps (g0 (.iface t (.pointer (some a)))) [.d (.st s0.data.toList), .d (.st s1.data.toList)] [.string s0, .string s1] := .cons (.d (.st _)) (.cons (.d (.st _)) (.nil))
 refine (Lx.lawLinks_OK.calls [.d (.st s0.data.toList), .d (.st s1.data.toList)] Lx.nix (fun x _ _ => x = .d (.bool true)) (fun _ _ => False) (by exact Lx.lawLinks_OK_of hb0 hb1 rfl) _ _ W hv (wd0 h)).mono fun e w' he => ?_
 obtain ⟨g', he | he⟩ := he
 · obtain ⟨x, v, bx', a1, rfl, rfl, hx, hA⟩ := he
   rcases hx with ⟨⟨⟩⟩
   exact ⟨rfl, below_of hA.fr⟩
 · obtain ⟨_, _, _, _, hf, _⟩ := he
   exact hf.elim
set_option maxRecDepth 100000 in
set_option maxHeartbeats 2000000 in
theorem lifted (os : Os) (started : os.Started) (H : Type) (enc : TypeId × Value → H) (F : Stop.Interp) :
  ReturnsInHanded {} Tryz.checked os 3 .any ((OpenSpec.ofChange Rows.linkLinksSpec).preRow enc Tryz.prog Tryz.f3 Rows.linkLinksRow.domain false Rows.linkLinksRow.laid) (((OpenSpec.ofChange Rows.linkLinksSpec).at F).post enc Tryz.prog Tryz.f3 false true false false) := by
 have hw : (DataW.whole enc Tryz.prog ((zz4 os).forCall (fun _ _ => 0) ⟨#[], #[Value.string ⟨#[]⟩, Value.string ⟨#[]⟩], []⟩).memory Tryz.f3.params.toList Rows.linkLinksSpec.vars false #[Value.string ⟨#[]⟩, Value.string ⟨#[]⟩].toList 8).map (fun x => (x.1, x.2.1)) =
   some ([.lit (.string []), .lit (.string [])], []) := by kernel_rfl
 obtain ⟨⟨x1, x2, x3⟩, hx, hx1⟩ := Option.map_eq_some_iff.1 hw
 simp only [Prod.mk.injEq] at hx1
 obtain ⟨rfl, rfl⟩ := hx1
 refine returnsInHanded_of_row (C := Tryz.checked) (s := OpenSpec.ofChange Rows.linkLinksSpec) own started (by kernel_rfl) Tryz.func3
  (witness_row_atRef (enc := enc) (C := Tryz.checked) false (zz4 os) #[Value.string ⟨#[]⟩, Value.string ⟨#[]⟩] rfl (by kernel_rfl) (by kernel_rfl) (by kernel_rfl)
    (OpenSpec.preRow_of_cond 8 hx (by kernel_rfl) (fun k hk => by cases hk) (by kernel_rfl) (laid_met os _))) ?_
 intro W base args ds gs before hval0 hW _ _ hsz hL _ _
 have hval : ∀ (j : Nat) t v, Tryz.f3.params[j]? = some t → args[j]? = some v → Value.okWide Tryz.prog W .any base t v := hval0
 have hW' := hW
 obtain ⟨p, q, hA0, hV0, rfl, _, _⟩ := hW
 have hA : DataW.TrodAll enc Tryz.prog W 0 (fun _ => true) true Tryz.f3.params.toList args.toList ds p := hA0
 rw [Tryz.params3] at hA hval
 obtain ⟨v0, v1, d0, d1, p0, p1, rfl, rfl, rfl, h0, h1⟩ := trodAll_two hA
 obtain ⟨rfl, rfl⟩ := trodVars_none hV0
 obtain ⟨s0, rfl, rfl, rfl, ws0⟩ := open_string Tryz.underlying9 (hval 0 9 v0 rfl rfl) h0
 obtain ⟨s1, rfl, rfl, rfl, ws1⟩ := open_string Tryz.underlying9 (hval 1 9 v1 rfl rfl) h1
 have hb0 : s0.data.toList.length ≤ 140737488351232 := sized_string (ts := [9, 9]) hsz (j := 0) rfl rfl
 have hb1 : s1.data.toList.length ≤ 140737488351232 := sized_string (ts := [9, 9]) hsz (j := 1) rfl rfl
 clear hA0 hV0 hval0
 have hL' : laidMet Tryz.prog Rows.linkLinksRow.laid W := hL
 obtain ⟨a1, t1, hv1, _, _, _⟩ := laid_sentinel (g := 1) hL'.tail.tail.tail (by kernel_rfl) (by kernel_rfl) Tryz.underlying124 row166 Tryz.underlying166 Tryz.underlying168 rfl rfl Tryz.underlying9 (by kernel_rfl) (by kernel_rfl)
 have hc : W.cell? ⟨1, 0, none⟩ = some (.iface 166 (.pointer (some a1))) := zv2 hv1
 refine (walk s0 s1 W hc hb0 hb1).mono ?_
 rintro e W' ⟨rfl, bel⟩
 refine ⟨_, rfl, _, _, _, [], [], [], hW', ?_, ?_, ?_, bel.frame _, fun h => by cases h⟩
 · exact trodAll_mk1 (shut_bool Tryz.underlying4 _)
 · exact trodAll_mk2 (shut_string Tryz.underlying9 ws0) (shut_string Tryz.underlying9 ws1)
 · rfl
theorem said : Rows.LinkLinksSaid :=
 OpenClaim.holds_of_cond 3 Tryz.f3 rfl rfl rfl rfl rfl rfl rfl ⟨rfl, rfl, rfl, rfl, rfl⟩ rfl rfl rfl rfl rfl (by kernel_rfl) Tryz.func3 (by kernel_rfl)
  (of_decide_eq_true (by kernel_rfl)) (by unfold Func.isWrapper; first | (rw [if_pos (by decide +kernel)]; kernel_rfl) | (rw [if_neg (by decide +kernel)]; exact ⟨rfl, rfl⟩))
  (fun os started H enc _ F => by rw [OpenClaim.pre_eq_preRow]; exact lifted os started H enc F)
theorem plain (f : FuncId) (fn : Func) (hf : Tryz.pinned.checked.prog.funcNamed "lychgate/lychgatelaw08.LinkLinks" = some f) (hfn : Tryz.pinned.checked.prog.funcs[f]? = some fn) :
  true = Tryz.pinned.checked.prog.looks [] ∧ ∀ (j : Nat) t, fn.params[j]? = some t → Tryz.pinned.checked.prog.wantsStandIn t = false := by
 obtain rfl : f = 3 := Option.some.inj ((show Tryz.prog.funcNamed "lychgate/lychgatelaw08.LinkLinks" = some 3 by kernel_rfl).symm.trans hf) |>.symm
 obtain rfl : fn = Tryz.f3 := (Option.some.inj (Tryz.func3.symm.trans hfn)).symm
 refine ⟨by kernel_rfl, fun j t ht => ?_⟩
 rw [Tryz.params3] at ht
 obtain rfl : t = 9 := by simpa using Array.mem_of_getElem? ht
 exact (show Tryz.prog.wantsStandIn 9 = false by kernel_rfl)
theorem card : Rows.LinkLinksCardSaid :=
 Claim7.holds_tied_plain_at .later [] _ _ _ _ said (fun _ h => by cases h) (by kernel_rfl) (fun _ h => by cases h) linkLinks_row_tie rfl ⟨rfl, rfl⟩ (by kernel_rfl) rfl plain (by kernel_rfl)
end Go.Proofs.YtdfhdhoofofenaaGreatDoor.linkLinks
