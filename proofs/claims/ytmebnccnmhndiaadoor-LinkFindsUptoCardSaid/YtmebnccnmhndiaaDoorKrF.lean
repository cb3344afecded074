/-
  LinkFinds: the row and the card.
-/
import Derived.Test.YtmebnccnmhndiaaDoorKy
import Derived.Test.YtmebnccnmhndiaaDoorCards
import Derived.Test.YtmebnccnmhndiaaDoorTie
import Derived.WalkKit
import Derived.SizedLaws
import Derived.Carry
import Derived.ChangeSlices
import Derived.Deep.Strs
import Derived.ProofKit
import Derived.OpenShut
import Derived.Deep.DeepHandedRow
import Derived.Deep.DeepWitnessRowRef
import Derived.Lib.LaidIn
import Derived.Stop.LaidErr
import Derived.Lib.LaidTab
set_option linter.unusedVariables false
namespace Go.Proofs.YtmebnccnmhndiaaDoor.linkFinds
open Go Go.ChangeShapes Go.WideShapes Go.ChangeAt Go.RowKit Go.Lib
open Go.ChangeMaps (open_string shut_string)
open Go.Proofs.Tryd

theorem own : ownKnob Tryd.prog.godebug = none := by kernel_rfl
theorem star : "*" ++ "errors.errorString" = "*errors.errorString" := by decide
theorem row123 (u : TypeId) (h : Tryd.prog.typeName? 3 u = some "*errors.errorString") : u = 123 :=
  typeName_ptr_named (nm := "errors.errorString") (by rw [star]; kernel_rfl) (by kernel_rfl) (by decide) u (by rw [star]; exact h)

/-- A world in which the listed variables are laid. -/
noncomputable def laidWorld (os : Os) : World :=
  let N := (World.settled Tryd.prog os).heap.size
  let w0 := World.holding Tryd.prog os ⟨#[
    .cells #[.string ⟨#[105, 110, 118, 97, 108, 105, 100, 32, 115, 121, 110, 116, 97, 120]⟩] 125, .cells #[.string ⟨#[118, 97, 108, 117, 101, 32, 111, 117, 116, 32, 111, 102, 32, 114, 97, 110, 103, 101]⟩] 125], #[], []⟩
  let put (h : Array Obj) (g : Nat) (cs : Array Value) : Array Obj := h.modify g fun
    | .cells _ t frozen => .cells cs t frozen
    | o => o
  let h0 := put (put w0.heap 0 #[.iface 123 (.pointer (some ⟨N, 0, none⟩))]) 1 #[.iface 123 (.pointer (some ⟨N + 1, 0, none⟩))]
  let h1 := put h0 3 (((List.range 20).map fun i => Value.int .u64 ((10 ^ i : Nat) : Int)).toArray)
  let h2 := put h1 4 (([0, 1, 28, 2, 29, 14, 24, 3, 30, 22, 20, 15, 25, 17, 4, 8, 31, 27, 13, 23, 21, 19, 16, 7, 26, 12, 18, 6, 11, 5, 10, 9].map fun z => Value.int .u8 z).toArray)
  let h3 := put h2 5 (([0, 1, 56, 2, 57, 49, 28, 3, 61, 58, 42, 50, 38, 29, 17, 4, 62, 47, 59, 36, 45, 43, 51, 22, 53, 39, 33, 30, 24, 18, 12, 5, 63, 55, 48, 27, 60, 41, 37, 16, 46, 35, 44, 21, 52, 32, 23, 11, 54, 26, 40, 15, 34, 20, 31, 10, 25, 14, 19, 9, 13, 8, 7, 6].map fun z => Value.int .u8 z).toArray)
  { w0 with heap := h3 }
theorem laid_met (os : Os) (args : Array Value) : laidMet Tryd.prog Rows.linkFindsRow.laid ((laidWorld os).forCall (fun _ _ => 0) ⟨#[], args, []⟩).memory :=
  laidMet_of_run' 8 (by kernel_rfl) (by kernel_rfl)

theorem cell_of_var {W : World} {v : Value} (h : W.var? Tryd.prog "strconv.ErrRange" = some #[v]) : W.cell? ⟨1, 0, none⟩ = some v := by
  unfold World.var? at h
  rw [show Tryd.prog.globalNamed "strconv.ErrRange" = some 1 by kernel_rfl] at h
  simp only [Option.bind_some] at h
  unfold World.cell?
  split at h
  · rename_i e
    rw [e]
    cases h
    rfl
  · cases h

/-- The memory that never changes, at the beginning: the error's cell. -/
def g0 (v : Value) : Lx.Gh := ⟨fun _ => 0, fun b o => if b = 1 ∧ o = 0 then some v else none, fun _ => (0, 0), fun _ => none⟩
theorem wd0 {W : World} {t : TypeId} {a : Addr} (h : W.cell? ⟨1, 0, none⟩ = some (.iface t (.pointer (some a)))) : Lx.Wd (g0 (.iface t (.pointer (some a)))) Lx.nix Lx.nix W where
  box := fun k b e => by cases e
  arr := fun r sz ty xs e => by cases e
  len := fun r => rfl
  fx := by
    refine ⟨fun b o v e => ?_, ⟨(t, .pointer (some a)), rfl⟩⟩
    simp only [g0] at e
    split at e
    · rename_i hb
      obtain ⟨rfl, rfl⟩ := hb
      cases e
      exact ⟨h, rfl⟩
    · cases e
  inj := fun k k' b b' e => by cases e
  inja := fun r r' a a' e => by cases e
  injb := fun k r b a e => by cases e
  outb := fun k b o e => by cases e
  outa := fun r a o e _ => by cases e

theorem below_of {g : Lx.Gh} {W w' : World} (h : Lx.Fr (Lx.ownOf g Lx.nix) W w') : Below W.heap.size W w' :=
  ⟨h.os, h.tape, h.output, h.size, fun k hk => h.block k hk (fun ⟨_, _, e, _⟩ => by cases e)⟩

/-- The memory that never changes, at the beginning: the error's cell and the argument's. -/
noncomputable def g1 (W : World) (b off n : Nat) : Lx.Gh := ⟨fun _ => 0, fun b' o => if (b' = 1 ∧ o = 0) ∨ (b' = b ∧ off ≤ o ∧ o < off + n) then W.cell? ⟨b', o, none⟩ else none, fun _ => (0, 0), fun _ => none⟩
theorem wd1 {W : World} {t : TypeId} {a : Addr} (h : W.cell? ⟨1, 0, none⟩ = some (.iface t (.pointer (some a)))) {b off n : Nat} {Sx : Nat → ByteArray} (hz : ∀ j, j < n → W.cell? ⟨b, off + j, none⟩ = some (.string (Sx j))) : Lx.Wd (g1 W b off n) Lx.nix Lx.nix W where
  box := fun k b e => by cases e
  arr := fun r sz ty xs e => by cases e
  len := fun r => rfl
  fx := by
    refine ⟨fun b' o v e => ?_, ⟨(t, .pointer (some a)), ?_⟩⟩
    · simp only [g1] at e
      split at e
      · rename_i hb
        refine ⟨e, ?_⟩
        rcases hb with ⟨rfl, rfl⟩ | ⟨rfl, h1, h2⟩
        · rw [h] at e; cases e; rfl
        · have := hz (o - off) (by omega)
          rw [show off + (o - off) = o by omega, e] at this
          cases this; rfl
      · cases e
    · have e : (g1 W b off n).Φ 1 0 = some (.iface t (.pointer (some a))) := by
        simp only [g1]
        rw [if_pos (.inl (by simp))]
        exact h
      exact e
  inj := fun k k' b b' e => by cases e
  inja := fun r r' a a' e => by cases e
  injb := fun k r b a e => by cases e
  outb := fun k b o e => by cases e
  outa := fun r a o e _ => by cases e
theorem rps_strs (Φ : Nat → Nat → Option Value) (Sx : Nat → ByteArray) : ∀ l : List Nat, Lx.Rps Φ ((l.map fun i => (Sx i).data.toList).map .st) (l.map fun i => .string (Sx i))
  | [] => .nil
  | z :: zs => .cons (.st _) (rps_strs Φ Sx zs)
/-- A slice of strings: it is data in some memory that never changes. -/
theorem strs_rp {W : World} {t : TypeId} {a : Addr} (h : W.cell? ⟨1, 0, none⟩ = some (.iface t (.pointer (some a)))) {a1 : Addr} {len cap : Nat} {Sx : Nat → ByteArray} (hl : len ≤ cap) (hcell : ∀ i, i < cap → W.cell? (a1.add i) = some (.string (Sx i))) :
    ∃ g, Lx.Wd g Lx.nix Lx.nix W ∧ Lx.Rp g.Φ (.sl 1 (((List.range len).map fun i => (Sx i).data.toList).map .st) false) (.slice (some a1) len cap) := by
  cases len with
  | zero => exact ⟨_, wd0 h, .sl0 1 false (some a1) cap (fun e => by cases e) (fun e => by cases e)⟩
  | succ n =>
    obtain ⟨b, off, spot⟩ := a1
    have hspot : spot = none := by simpa [Addr.add] using World.cell?_spot (hcell 0 (by omega))
    subst hspot
    have hc : ∀ j, j < cap → W.cell? ⟨b, off + j, none⟩ = some (.string (Sx j)) := fun j hj => by rw [← Go.WideShapes.add_plain]; exact hcell j hj
    refine ⟨_, wd1 h hc, ?_⟩
    have hL : (((List.range (n + 1)).map fun i => (Sx i).data.toList).map Lx.D.st).length = n + 1 := by simp
    have hr := rps_strs (g1 W b off cap).Φ Sx (List.range (n + 1))
    have := Lx.Rp.sl (Φ := (g1 W b off cap).Φ) (sz := 1) (f := false) b off cap (fun e => by rw [e] at hL; simp at hL) hr
      (fun i u hu => by
        rw [List.getElem?_map] at hu
        obtain ⟨z, _, rfl⟩ := Option.map_eq_some_iff.1 hu
        rfl)
      (fun i u hu j c hj => by
        rw [List.getElem?_map] at hu
        obtain ⟨z, hz', rfl⟩ := Option.map_eq_some_iff.1 hu
        obtain ⟨hi, hz'⟩ := List.getElem?_eq_some_iff.1 hz'
        rw [List.getElem_range] at hz'
        subst hz'
        rw [List.length_range] at hi
        cases j with
        | succ j => cases hj
        | zero =>
          cases hj
          simp only [g1]
          rw [if_pos (.inr (by refine ⟨by first | rfl | trivial, by omega, by omega⟩))]
          rw [show off + i * 1 + 0 = off + i by omega, hc i (by omega)]
          rfl)
      (by rw [hL]; omega) (fun e => by cases e)
    rw [hL] at this
    exact this

theorem walk (v0 : Value) (ns : List (List UInt8)) (n1 : Int) (s2 : ByteArray) (W : World) (g : Lx.Gh) (hw : Lx.Wd g Lx.nix Lx.nix W) (hn : ns.length ≤ 1048576) (hv0 : Lx.Rp g.Φ (.sl 1 (ns.map .st) false) v0) :
    Calls Tryd.prog 3 #[v0, .int .i64 n1, .string s2] W fun e w' => e = .returned (.bool true) ∧ Below W.heap.size W w' := by
  have hv : Lx.LRps g [.d (.sl 1 (ns.map .st) false), .d (.int .i64 n1), .d (.st s2.data.toList)] [v0, .int .i64 n1, .string s2] := .cons (.d hv0) (.cons (.d (.int _ _)) (.cons (.d (.st _)) .nil))
  refine (Lx.lawFinds_OK.calls _ Lx.nix (fun x _ _ => x = .d (.bool true)) (fun _ _ => False) (by exact ⟨ns, false, n1, _, rfl, hn, rfl⟩) _ _ W hv hw).mono fun e w' he => ?_
  obtain ⟨g', he | he⟩ := he
  · obtain ⟨x, v, bx', a1, rfl, rfl, hx, hA⟩ := he
    rcases hx with ⟨⟨⟩⟩
    exact ⟨rfl, below_of hA.fr⟩
  · obtain ⟨_, _, _, _, hf, _⟩ := he
    exact hf.elim

theorem c9 : Tryd.prog.cellsOf 9 = 1 := by kernel_rfl
theorem laidOut : laidOutB Tryd.prog = true := by kernel_rfl
theorem bulk_one {H : Type} (d : DataW H) : 1 ≤ Rows.uptoBulk d := by
  cases d with
  | lit l => cases l <;> simp [Rows.uptoBulk]
  | nil => simp [Rows.uptoBulk]
  | ptr d => simp [Rows.uptoBulk]
  | slice elems spare => simp [Rows.uptoBulk]
  | agg parts => simp [Rows.uptoBulk]
  | iface t d => simp [Rows.uptoBulk]
  | map entries => simp [Rows.uptoBulk]
  | held h => simp [Rows.uptoBulk]
theorem bulk_length {H : Type} (l : List (DataW H)) : l.length ≤ Rows.uptoBulkAll l := by
  induction l with
  | nil => simp [Rows.uptoBulkAll]
  | cons x r ih => have := bulk_one x; simp only [Rows.uptoBulkAll, List.length_cons]; omega
set_option maxRecDepth 100000 in
set_option maxHeartbeats 2000000 in
theorem lifted (os : Os) (started : os.Started) (H : Type) (enc : TypeId × Value → H) (F : Stop.Interp) :
    ReturnsInHanded {} Tryd.checked os 3 .any ((Rows.OpenSpec.upto Rows.linkFindsSpec).preRow enc Tryd.prog Tryd.f3 Rows.linkFindsUptoRow.domain false Rows.linkFindsUptoRow.laid) (((Rows.OpenSpec.upto Rows.linkFindsSpec).at F).post enc Tryd.prog Tryd.f3 false true false false) := by
  have hw : (DataW.whole enc Tryd.prog ((laidWorld os).forCall (fun _ _ => 0) ⟨#[], #[Value.slice none 0 0, Value.int .i64 0, Value.string ⟨#[]⟩], []⟩).memory Tryd.f3.params.toList Rows.linkFindsSpec.vars false #[Value.slice none 0 0, Value.int .i64 0, Value.string ⟨#[]⟩].toList 8).map (fun x => (x.1, x.2.1)) =
      some ([.nil, .lit (.int .i64 0), .lit (.string [])], []) := by kernel_rfl
  obtain ⟨⟨x1, x2, x3⟩, hx, hx1⟩ := Option.map_eq_some_iff.1 hw
  simp only [Prod.mk.injEq] at hx1
  obtain ⟨rfl, rfl⟩ := hx1
  refine returnsInHanded_of_row (C := Tryd.checked) (s := Rows.OpenSpec.upto Rows.linkFindsSpec) own started (by kernel_rfl) Tryd.func3
    (witness_row_atRef (enc := enc) (C := Tryd.checked) false (laidWorld os) #[Value.slice none 0 0, Value.int .i64 0, Value.string ⟨#[]⟩] rfl (by kernel_rfl) (by kernel_rfl) (by kernel_rfl)
      (OpenSpec.preRow_of_cond 8 hx (by kernel_rfl) (fun k hk => by cases hk; kernel_rfl) (by kernel_rfl) (laid_met os _))) ?_
  intro W base args ds gs before hval0 hW hdom hcond hsz hL _ _
  have hval : ∀ (j : Nat) t v, Tryd.f3.params[j]? = some t → args[j]? = some v → Value.okWide Tryd.prog W .any base t v := hval0
  have hW' := hW
  have hk : Rows.uptoSmall H (ds ++ gs) = true := hcond _ rfl
  obtain ⟨p, q, hA0, hV0, rfl, _, _⟩ := hW
  have hA : DataW.TrodAll enc Tryd.prog W 0 (fun _ => true) true Tryd.f3.params.toList args.toList ds p := hA0
  have hlt : ∀ x ∈ p, x.block < W.heap.size := fun x hx => hW'.lt x (List.mem_append_left _ hx)
  rw [Tryd.params3] at hA hval
  obtain ⟨v0, v1, v2, d0, d1, d2, p0, p1, p2, rfl, rfl, rfl, h0, h1, h2⟩ := trodAll_three hA
  obtain ⟨rfl, rfl⟩ := trodVars_none hV0
  obtain ⟨n1, rfl, rfl, rfl, ws1⟩ := open_int Tryd.underlying3 (hval 1 3 v1 rfl rfl) h1
  obtain ⟨s2, rfl, rfl, rfl, ws2⟩ := open_string Tryd.underlying9 (hval 2 9 v2 rfl rfl) h2
  have h0k := h0
  obtain ⟨a0, len0, cap0, rfl⟩ := okWide_slice Tryd.underlying22 (hval 0 22 v0 rfl rfl)
  obtain ⟨fuel, hf⟩ := h0
  clear hA0 hV0 hval0
  have hL' : laidMet Tryd.prog Rows.linkFindsRow.laid W := hL
  obtain ⟨a1, t1, hv1, _, _, _⟩ := laid_sentinel (g := 1) hL'.tail.tail.tail (by kernel_rfl) (by kernel_rfl) Tryd.underlying90 row123 Tryd.underlying123 Tryd.underlying125 rfl rfl Tryd.underlying9 (by kernel_rfl) (by kernel_rfl)
  have hc : W.cell? ⟨1, 0, none⟩ = some (.iface 123 (.pointer (some a1))) := cell_of_var hv1
  have hg : ∃ (g : Lx.Gh) (ns : List (List UInt8)), Lx.Wd g Lx.nix Lx.nix W ∧ ns.length ≤ 1048576 ∧ Lx.Rp g.Φ (.sl 1 (ns.map .st) false) (.slice a0 len0 cap0) := by
    rcases Go.Deep.open_strs Tryd.underlying22 Tryd.underlying9 c9 hf with ⟨hcs, _⟩ | ⟨a, len', cap', m, Sx, hcs, _, hl, _, hm, hx0, hcell⟩
    · simp [Value.cells] at hcs
      obtain ⟨rfl, rfl, rfl⟩ := hcs
      exact ⟨_, [], wd0 hc, by simp, .sl0 1 false none 0 (fun _ => rfl) (fun _ => rfl)⟩
    · simp [Value.cells] at hcs
      obtain ⟨rfl, rfl, rfl⟩ := hcs
      simp only [if_true] at hm
      subst hm
      obtain ⟨g, h1, h2⟩ := strs_rp hc hl fun i hi => (hcell i hi).1
      refine ⟨g, _, h1, ?_, h2⟩
      simp only [Prod.mk.injEq] at hx0
      obtain ⟨rfl, _⟩ := hx0
      have hb : Rows.uptoBulkAll (H := H) ([DataW.slice ((List.range len0).map fun i => DataW.lit (H := H) (.string (Sx i).data.toList)) ((List.range (m - len0)).map fun j => .lit (.string (Sx (len0 + j)).data.toList)), .lit (.int .i64 n1), .lit (.string s2.data.toList)] ++ []) ≤ 1048576 := by
        simpa [Rows.uptoSmall] using hk
      have h3 := bulk_length ((List.range len0).map fun i => DataW.lit (H := H) (.string (Sx i).data.toList))
      simp only [List.cons_append, List.nil_append, Rows.uptoBulkAll, Rows.uptoBulk, List.length_map, List.length_range] at hb h3 ⊢
      omega
  obtain ⟨g, ns, hw1, hn, hr1⟩ := hg
  refine (walk _ ns n1 s2 W g hw1 hn hr1).mono ?_
  rintro e W' ⟨rfl, bel⟩
  refine ⟨_, rfl, _, _, _, [], p0 ++ ([] ++ []), [], hW', ?_, ?_, ?_, bel.frame _, fun h => by cases h⟩
  · exact trodAll_mk1 (shut_bool Tryd.underlying4 _)
  · exact trodAll_mk3 (Below.trod laidOut (by kernel_rfl) (of_decide_eq_true (by kernel_rfl)) h0k bel (fun x hx => hlt x (by simpa using hx))) (shut_int Tryd.underlying3 ws1) (shut_string Tryd.underlying9 ws2)
  · rfl

theorem saidUpto : Rows.LinkFindsUptoSaid :=
  OpenClaim.holds_of_cond 3 Tryd.f3 rfl rfl rfl rfl rfl rfl rfl ⟨rfl, rfl, rfl, rfl, rfl⟩ rfl rfl rfl rfl rfl (by kernel_rfl) Tryd.func3 (by kernel_rfl)
    (of_decide_eq_true (by kernel_rfl)) (by unfold Func.isWrapper; first | (rw [if_pos (by decide +kernel)]; kernel_rfl) | (rw [if_neg (by decide +kernel)]; exact ⟨rfl, rfl⟩))
    (fun os started H enc _ F => by rw [OpenClaim.pre_eq_preRow]; exact lifted os started H enc F)

theorem plain (f : FuncId) (fn : Func) (hf : Tryd.pinned.checked.prog.funcNamed "lychgate/lychgatelaw08.LinkFinds" = some f) (hfn : Tryd.pinned.checked.prog.funcs[f]? = some fn) :
    true = Tryd.pinned.checked.prog.looks [] ∧ ∀ (j : Nat) t, fn.params[j]? = some t → Tryd.pinned.checked.prog.wantsStandIn t = false := by
  obtain rfl : f = 3 := Option.some.inj ((show Tryd.prog.funcNamed "lychgate/lychgatelaw08.LinkFinds" = some 3 by kernel_rfl).symm.trans hf) |>.symm
  obtain rfl : fn = Tryd.f3 := (Option.some.inj (Tryd.func3.symm.trans hfn)).symm
  refine ⟨by kernel_rfl, fun j t ht => ?_⟩
  rw [Tryd.params3] at ht
  rcases (by simpa using Array.mem_of_getElem? ht : t = 22 ∨ t = 3 ∨ t = 9) with rfl | rfl | rfl
  · exact (show Tryd.prog.wantsStandIn 22 = false by kernel_rfl)
  · exact (show Tryd.prog.wantsStandIn 3 = false by kernel_rfl)
  · exact (show Tryd.prog.wantsStandIn 9 = false by kernel_rfl)

theorem cardUpto : Rows.LinkFindsUptoCardSaid :=
  Claim7.holds_tied_plain_at .later [] _ _ _ _ saidUpto (fun _ h => by cases h) (by kernel_rfl) (fun _ h => by cases h) linkFindsUpto_row_tie rfl ⟨rfl, rfl⟩ (by kernel_rfl) rfl plain (by kernel_rfl)
end Go.Proofs.YtmebnccnmhndiaaDoor.linkFinds
