/-
  ShapeFacts: the row and the card.
-/
import Derived.Test.YtchmejlaancegaaDoorMc
import Derived.Test.YtchmejlaancegaaDoorCards
import Derived.Test.YtchmejlaancegaaDoorTie
import Derived.WalkKit
import Derived.SizedLaws
import Derived.ProofKit
import Derived.OpenShut
import Derived.Deep.DeepHandedRow
import Derived.Deep.DeepWitnessRowRef
import Derived.Lib.LaidIn
import Derived.Stop.LaidErr
import Derived.Lib.LaidTab
set_option linter.unusedVariables false
namespace Go.Proofs.YtchmejlaancegaaDoor.shapeFacts
open Go Go.ChangeShapes Go.WideShapes Go.ChangeAt Go.RowKit Go.Lib
open Go.ChangeMaps (open_string shut_string)
open Go.Proofs.Tryd

theorem own : ownKnob Tryd.prog.godebug = none := by kernel_rfl
theorem star : "*" ++ "errors.errorString" = "*errors.errorString" := by decide
theorem row142 (u : TypeId) (h : Tryd.prog.typeName? 3 u = some "*errors.errorString") : u = 142 :=
  typeName_ptr_named (nm := "errors.errorString") (by rw [star]; kernel_rfl) (by kernel_rfl) (by decide) u (by rw [star]; exact h)

/-- A world in which the listed variables are laid. -/
noncomputable def laidWorld (os : Os) : World :=
  let N := (World.settled Tryd.prog os).heap.size
  let w0 := World.holding Tryd.prog os ⟨#[
    .cells #[.string ⟨#[105, 110, 118, 97, 108, 105, 100, 32, 115, 121, 110, 116, 97, 120]⟩] 144, .cells #[.string ⟨#[118, 97, 108, 117, 101, 32, 111, 117, 116, 32, 111, 102, 32, 114, 97, 110, 103, 101]⟩] 144], #[], []⟩
  let put (h : Array Obj) (g : Nat) (cs : Array Value) : Array Obj := h.modify g fun
    | .cells _ t frozen => .cells cs t frozen
    | o => o
  let h0 := put (put w0.heap 0 #[.iface 142 (.pointer (some ⟨N, 0, none⟩))]) 1 #[.iface 142 (.pointer (some ⟨N + 1, 0, none⟩))]
  let h1 := put h0 3 (((List.range 20).map fun i => Value.int .u64 ((10 ^ i : Nat) : Int)).toArray)
  let h2 := put h1 4 (([0, 1, 28, 2, 29, 14, 24, 3, 30, 22, 20, 15, 25, 17, 4, 8, 31, 27, 13, 23, 21, 19, 16, 7, 26, 12, 18, 6, 11, 5, 10, 9].map fun z => Value.int .u8 z).toArray)
  let h3 := put h2 5 (([0, 1, 56, 2, 57, 49, 28, 3, 61, 58, 42, 50, 38, 29, 17, 4, 62, 47, 59, 36, 45, 43, 51, 22, 53, 39, 33, 30, 24, 18, 12, 5, 63, 55, 48, 27, 60, 41, 37, 16, 46, 35, 44, 21, 52, 32, 23, 11, 54, 26, 40, 15, 34, 20, 31, 10, 25, 14, 19, 9, 13, 8, 7, 6].map fun z => Value.int .u8 z).toArray)
  { w0 with heap := h3 }
theorem laid_met (os : Os) (args : Array Value) : laidMet Tryd.prog Rows.shapeFactsRow.laid ((laidWorld os).forCall (fun _ _ => 0) ⟨#[], args, []⟩).memory :=
  laidMet_of_run' 8 (by kernel_rfl) (by kernel_rfl)

theorem cell_of_var {W : World} {v : Value} (h : W.var? Tryd.prog "strconv.ErrRange" = some #[v]) : W.cell? ⟨1, 0, none⟩ = some v := by
  unfold World.var? at h
  rw [show Tryd.prog.globalNamed "strconv.ErrRange" = some 1 by kernel_rfl] at h
  simp only [Option.bind_some] at h
  unfold World.cell?
  split at h
  · rename_i e
    rw [e]
    cases h
    rfl
  · cases h

/-- The memory that never changes, at the beginning: the error's cell. -/
def g0 (v : Value) : Lx.Gh := ⟨fun _ => 0, fun b o => if b = 1 ∧ o = 0 then some v else none, fun _ => (0, 0), fun _ => none⟩
theorem wd0 {W : World} {t : TypeId} {a : Addr} (h : W.cell? ⟨1, 0, none⟩ = some (.iface t (.pointer (some a)))) : Lx.Wd (g0 (.iface t (.pointer (some a)))) Lx.nix Lx.nix W where
  box := fun k b e => by cases e
  arr := fun r sz ty xs e => by cases e
  len := fun r => rfl
  fx := by
    refine ⟨fun b o v e => ?_, ⟨(t, .pointer (some a)), rfl⟩⟩
    simp only [g0] at e
    split at e
    · rename_i hb
      obtain ⟨rfl, rfl⟩ := hb
      cases e
      exact ⟨h, rfl⟩
    · cases e
  inj := fun k k' b b' e => by cases e
  inja := fun r r' a a' e => by cases e
  injb := fun k r b a e => by cases e
  outb := fun k b o e => by cases e
  outa := fun r a o e _ => by cases e

theorem below_of {g : Lx.Gh} {W w' : World} (h : Lx.Fr (Lx.ownOf g Lx.nix) W w') : Below W.heap.size W w' :=
  ⟨h.os, h.tape, h.output, h.size, fun k hk => h.block k hk (fun ⟨_, _, e, _⟩ => by cases e)⟩

/-- A Comparison, by value. -/
theorem open53 {P : Program} {f0 f1 f2 f3 f4 : Field} (u53 : P.underlying 53 = some (.struct #[f0, f1, f2, f3, f4])) (u9 : P.underlying 9 = some .string) (u3 : P.underlying 3 = some (.int .i64)) (u2 : P.underlying 2 = some (.int .i64)) (c53 : P.cellsOf 53 = 5) (c9 : P.cellsOf 9 = 1) (c3 : P.cellsOf 3 = 1) (c2 : P.cellsOf 2 = 1)
    (ht : f0.type = 9 ∧ f1.type = 3 ∧ f2.type = 3 ∧ f3.type = 2 ∧ f4.type = 2) (ho : f0.offset = 0 ∧ f1.offset = 1 ∧ f2.offset = 2 ∧ f3.offset = 3 ∧ f4.offset = 4)
    {H : Type} {enc : TypeId × Value → H} {W : World} {base : Nat} {sp : Nat → Bool} {held : Bool} {r : Reach} {b0 : Nat} {v : Value} {d : DataW H} {ps : List MemPlace} (hval : Value.okWide P W r b0 53 v) (h : DataW.Trod enc P W base sp held 53 v d ps) :
    ∃ (s : ByteArray) (a b k l : Int), v = .agg #[.string s, .int .i64 a, .int .i64 b, .int .i64 k, .int .i64 l] ∧ d = .agg [.lit (.string s.data.toList), .lit (.int .i64 a), .lit (.int .i64 b), .lit (.int .i64 k), .lit (.int .i64 l)] ∧ ps = [] ∧
      s.size ≤ maxLen ∧ (Lit.int .i64 a).wf = true ∧ (Lit.int .i64 b).wf = true ∧ (Lit.int .i64 k).wf = true ∧ (Lit.int .i64 l).wf = true := by
  obtain ⟨cs, rfl, hsz⟩ := okWide_struct u53 hval
  rw [c53] at hsz
  obtain ⟨fuel, h⟩ := h
  obtain ⟨ys, n, _, hx, _, hl, hf⟩ := DataW.trod_struct u53 h
  obtain ⟨cs⟩ := cs
  obtain ⟨t0, t1, t2, t3, t4⟩ := ht
  obtain ⟨o0, o1, o2, o3, o4⟩ := ho
  match cs, hsz, ys, hl with
  | [v0, v1, v2, v3, v4], _, [y0, y1, y2, y3, y4], _ =>
    have h0 := hf 0 _ rfl
    have h1 := hf 1 _ rfl
    have h2 := hf 2 _ rfl
    have h3 := hf 3 _ rfl
    have h4 := hf 4 _ rfl
    simp [Value.cells, t0, t1, t2, t3, t4, o0, o1, o2, o3, o4, c9, c3, c2] at h0 h1 h2 h3 h4
    obtain ⟨s, e0, rfl, w0⟩ := DataW.trod_string u9 h0
    obtain ⟨a, e1, rfl, w1⟩ := DataW.trod_int u3 h1
    obtain ⟨b, e2, rfl, w2⟩ := DataW.trod_int u3 h2
    obtain ⟨k, e3, rfl, w3⟩ := DataW.trod_int u2 h3
    obtain ⟨l, e4, rfl, w4⟩ := DataW.trod_int u2 h4
    simp at e0 e1 e2 e3 e4
    subst e0 e1 e2 e3 e4
    simp at hx
    exact ⟨s, a, b, k, l, rfl, hx.1, hx.2, w0, w1, w2, w3, w4⟩
theorem shut53 {P : Program} {f0 f1 f2 f3 f4 : Field} (u53 : P.underlying 53 = some (.struct #[f0, f1, f2, f3, f4])) (u9 : P.underlying 9 = some .string) (u3 : P.underlying 3 = some (.int .i64)) (u2 : P.underlying 2 = some (.int .i64)) (c53 : P.cellsOf 53 = 5) (c9 : P.cellsOf 9 = 1) (c3 : P.cellsOf 3 = 1) (c2 : P.cellsOf 2 = 1)
    (ht : f0.type = 9 ∧ f1.type = 3 ∧ f2.type = 3 ∧ f3.type = 2 ∧ f4.type = 2) (ho : f0.offset = 0 ∧ f1.offset = 1 ∧ f2.offset = 2 ∧ f3.offset = 3 ∧ f4.offset = 4)
    {H : Type} {enc : TypeId × Value → H} {W : World} {base : Nat} {sp : Nat → Bool} {held : Bool} {s : ByteArray} {a b k l : Int} (w0 : s.size ≤ maxLen) (w1 : (Lit.int .i64 a).wf = true) (w2 : (Lit.int .i64 b).wf = true) (w3 : (Lit.int .i64 k).wf = true) (w4 : (Lit.int .i64 l).wf = true) :
    DataW.Trod enc P W base sp held 53 (.agg #[.string s, .int .i64 a, .int .i64 b, .int .i64 k, .int .i64 l]) (.agg [.lit (.string s.data.toList), .lit (.int .i64 a), .lit (.int .i64 b), .lit (.int .i64 k), .lit (.int .i64 l)]) [] := by
  obtain ⟨t0, t1, t2, t3, t4⟩ := ht
  obtain ⟨o0, o1, o2, o3, o4⟩ := ho
  refine ⟨2, ?_⟩
  simp [DataW.trod, Value.cells, t0, t1, t2, t3, t4, o0, o1, o2, o3, o4, u53, u9, u3, u2, c53, c9, c3, c2, w0, w1, w2, w3, w4]
theorem c9 : Tryd.prog.cellsOf 9 = 1 := by kernel_rfl
theorem c3 : Tryd.prog.cellsOf 3 = 1 := by kernel_rfl
theorem c2 : Tryd.prog.cellsOf 2 = 1 := by kernel_rfl
theorem c53 : Tryd.prog.cellsOf 53 = 5 := by kernel_rfl

theorem walk (s0 : ByteArray) (a0 b0 k0 l0 : Int) (W : World) {t : TypeId} {a : Addr} (h : W.cell? ⟨1, 0, none⟩ = some (.iface t (.pointer (some a))))  :
    Calls Tryd.prog 9 #[.agg #[.string s0, .int .i64 a0, .int .i64 b0, .int .i64 k0, .int .i64 l0]] W fun e w' => e = .returned (.bool true) ∧ Below W.heap.size W w' := by
  have hv : Lx.LRps (g0 (.iface t (.pointer (some a)))) [.d (.ag [.st s0.data.toList, .int .i64 a0, .int .i64 b0, .int .i64 k0, .int .i64 l0])] [.agg #[.string s0, .int .i64 a0, .int .i64 b0, .int .i64 k0, .int .i64 l0]] := .cons (.d (.ag (.cons (.st _) (.cons (.int _ _) (.cons (.int _ _) (.cons (.int _ _) (.cons (.int _ _) .nil))))))) (.nil)
  refine (Lx.lawFact_OK.calls [.d (.ag [.st s0.data.toList, .int .i64 a0, .int .i64 b0, .int .i64 k0, .int .i64 l0])] Lx.nix (fun x _ _ => x = .d (.bool true)) (fun _ _ => False) (by exact Lx.lawFact_OK_of  rfl) _ _ W hv (wd0 h)).mono fun e w' he => ?_
  obtain ⟨g', he | he⟩ := he
  · obtain ⟨x, v, bx', a1, rfl, rfl, hx, hA⟩ := he
    rcases hx with ⟨⟨⟩⟩
    exact ⟨rfl, below_of hA.fr⟩
  · obtain ⟨_, _, _, _, hf, _⟩ := he
    exact hf.elim

set_option maxRecDepth 100000 in
set_option maxHeartbeats 2000000 in
theorem lifted (os : Os) (started : os.Started) (H : Type) (enc : TypeId × Value → H) (F : Stop.Interp) :
    ReturnsInHanded {} Tryd.checked os 9 .any ((OpenSpec.ofChange Rows.shapeFactsSpec).preRow enc Tryd.prog Tryd.f9 Rows.shapeFactsRow.domain false Rows.shapeFactsRow.laid) (((OpenSpec.ofChange Rows.shapeFactsSpec).at F).post enc Tryd.prog Tryd.f9 false true false false) := by
  have hw : (DataW.whole enc Tryd.prog ((laidWorld os).forCall (fun _ _ => 0) ⟨#[], #[Value.agg #[.string ⟨#[]⟩, .int .i64 0, .int .i64 0, .int .i64 0, .int .i64 0]], []⟩).memory Tryd.f9.params.toList Rows.shapeFactsSpec.vars false #[Value.agg #[.string ⟨#[]⟩, .int .i64 0, .int .i64 0, .int .i64 0, .int .i64 0]].toList 8).map (fun x => (x.1, x.2.1)) =
      some ([.agg [.lit (.string []), .lit (.int .i64 0), .lit (.int .i64 0), .lit (.int .i64 0), .lit (.int .i64 0)]], []) := by kernel_rfl
  obtain ⟨⟨x1, x2, x3⟩, hx, hx1⟩ := Option.map_eq_some_iff.1 hw
  simp only [Prod.mk.injEq] at hx1
  obtain ⟨rfl, rfl⟩ := hx1
  refine returnsInHanded_of_row (C := Tryd.checked) (s := OpenSpec.ofChange Rows.shapeFactsSpec) own started (by kernel_rfl) Tryd.func9
    (witness_row_atRef (enc := enc) (C := Tryd.checked) false (laidWorld os) #[Value.agg #[.string ⟨#[]⟩, .int .i64 0, .int .i64 0, .int .i64 0, .int .i64 0]] rfl (by kernel_rfl) (by kernel_rfl) (by kernel_rfl)
      (OpenSpec.preRow_of_cond 8 hx (by kernel_rfl) (fun k hk => by cases hk) (by kernel_rfl) (laid_met os _))) ?_
  intro W base args ds gs before hval0 hW _ _ hsz hL _ _
  have hval : ∀ (j : Nat) t v, Tryd.f9.params[j]? = some t → args[j]? = some v → Value.okWide Tryd.prog W .any base t v := hval0
  have hW' := hW
  obtain ⟨p, q, hA0, hV0, rfl, _, _⟩ := hW
  have hA : DataW.TrodAll enc Tryd.prog W 0 (fun _ => true) true Tryd.f9.params.toList args.toList ds p := hA0
  rw [Tryd.params9] at hA hval
  obtain ⟨v0, d0, rfl, rfl, h0⟩ := trodAll_one hA
  obtain ⟨rfl, rfl⟩ := trodVars_none hV0
  obtain ⟨s0, a0, b0, k0, l0, rfl, rfl, rfl, ws0, wa0, wb0, wk0, wl0⟩ := open53 Tryd.underlying53 Tryd.underlying9 Tryd.underlying3 Tryd.underlying2 c53 c9 c3 c2 ⟨rfl, rfl, rfl, rfl, rfl⟩ ⟨rfl, rfl, rfl, rfl, rfl⟩ (hval 0 53 v0 rfl rfl) h0
  clear hA0 hV0 hval0
  have hL' : laidMet Tryd.prog Rows.shapeFactsRow.laid W := hL
  obtain ⟨a1, t1, hv1, _, _, _⟩ := laid_sentinel (g := 1) hL'.tail.tail.tail (by kernel_rfl) (by kernel_rfl) Tryd.underlying100 row142 Tryd.underlying142 Tryd.underlying144 rfl rfl Tryd.underlying9 (by kernel_rfl) (by kernel_rfl)
  have hc : W.cell? ⟨1, 0, none⟩ = some (.iface 142 (.pointer (some a1))) := cell_of_var hv1
  refine (walk s0 a0 b0 k0 l0 W hc ).mono ?_
  rintro e W' ⟨rfl, bel⟩
  refine ⟨_, rfl, _, _, _, [], [], [], hW', ?_, ?_, ?_, bel.frame _, fun h => by cases h⟩
  · exact trodAll_mk1 (shut_bool Tryd.underlying4 _)
  · exact trodAll_mk1 (shut53 Tryd.underlying53 Tryd.underlying9 Tryd.underlying3 Tryd.underlying2 c53 c9 c3 c2 ⟨rfl, rfl, rfl, rfl, rfl⟩ ⟨rfl, rfl, rfl, rfl, rfl⟩ ws0 wa0 wb0 wk0 wl0)
  · rfl

theorem said : Rows.ShapeFactsSaid :=
  OpenClaim.holds_of_cond 9 Tryd.f9 rfl rfl rfl rfl rfl rfl rfl ⟨rfl, rfl, rfl, rfl, rfl⟩ rfl rfl rfl rfl rfl (by kernel_rfl) Tryd.func9 (by kernel_rfl)
    (of_decide_eq_true (by kernel_rfl)) (by unfold Func.isWrapper; first | (rw [if_pos (by decide +kernel)]; kernel_rfl) | (rw [if_neg (by decide +kernel)]; exact ⟨rfl, rfl⟩))
    (fun os started H enc _ F => by rw [OpenClaim.pre_eq_preRow]; exact lifted os started H enc F)

theorem plain (f : FuncId) (fn : Func) (hf : Tryd.pinned.checked.prog.funcNamed "lychgate/lychgatelaw11.ShapeFacts" = some f) (hfn : Tryd.pinned.checked.prog.funcs[f]? = some fn) :
    true = Tryd.pinned.checked.prog.looks [] ∧ ∀ (j : Nat) t, fn.params[j]? = some t → Tryd.pinned.checked.prog.wantsStandIn t = false := by
  obtain rfl : f = 9 := Option.some.inj ((show Tryd.prog.funcNamed "lychgate/lychgatelaw11.ShapeFacts" = some 9 by kernel_rfl).symm.trans hf) |>.symm
  obtain rfl : fn = Tryd.f9 := (Option.some.inj (Tryd.func9.symm.trans hfn)).symm
  refine ⟨by kernel_rfl, fun j t ht => ?_⟩
  rw [Tryd.params9] at ht
  obtain rfl : t = 53 := by simpa using Array.mem_of_getElem? ht
  exact (show Tryd.prog.wantsStandIn 53 = false by kernel_rfl)

theorem card : Rows.ShapeFactsCardSaid :=
  Claim7.holds_tied_plain_at .later [] _ _ _ _ said (fun _ h => by cases h) (by kernel_rfl) (fun _ h => by cases h) shapeFacts_row_tie rfl ⟨rfl, rfl⟩ (by kernel_rfl) rfl plain (by kernel_rfl)
end Go.Proofs.YtchmejlaancegaaDoor.shapeFacts
