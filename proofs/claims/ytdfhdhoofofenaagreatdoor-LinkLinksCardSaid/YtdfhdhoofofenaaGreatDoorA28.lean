import Derived.Test.YtdfhdhoofofenaaGreatDoorA27
set_option linter.unusedSimpArgs false
set_option linter.unusedVariables false
set_option maxRecDepth 20000
namespace Lx
open Go
open Lg (Tok Tree Trm Inst Cod)
open Go.Proofs (Tryz.prog)
open Go.Proofs.Tryz
def insE (i : Inst) : D := .ag [.int .i64 i.op, .int .i64 i.at_, .st i.x, .st i.y, .st i.a.1, .int .i64 i.a.2, .st i.b.1, .int .i64 i.b.2, .sl 2 (i.args.map trmD) false, .int .i64 i.to, .bool i.has]
def codD (c : Cod) : D := .ag [.st c.name, .sl 1 (c.params.map .st) false, .sl 11 (c.list.map insE) false]
theorem le_trms (l : List Trm) : D.le (zjn l) (.sl 2 (l.map trmD) false) := by
 cases l with
 | nil => exact .nil _ _
 | cons x l => exact .rfl _
theorem le_ins (i : Inst) : D.le (insD i) (insE i) :=
 .ag (.cons (.rfl _) (.cons (.rfl _) (.cons (.rfl _) (.cons (.rfl _) (.cons (.rfl _) (.cons (.rfl _) (.cons (.rfl _) (.cons (.rfl _) (.cons (le_trms _) (.cons (.rfl _) (.cons (.rfl _) .nil)))))))))))
theorem zvp : ∀ l : List Inst, D.les (l.map insD) (l.map insE)
 | [] => .nil
 | i :: l => .cons (le_ins i) (zvp l)
theorem qku : ∀ (xs ys : List Tree) (b : Nat), Lg.zqm b (xs ++ ys) = Lg.zqm b xs ++ Lg.zqm (b + (Lg.zqm b xs).length) ys
 | [], ys, b => by simp [Lg.zqm]
 | x :: xs, ys, b => by
   rw [List.cons_append, Lg.zqm, Lg.zqm]
   split
   · rw [qku xs ys]
     simp only [List.append_assoc, List.cons_append, List.length_append, List.length_cons]
     congr 4; omega
   · rw [qku xs ys]
theorem bodyC_snoc {ks : List Tree} {i : Nat} (h : i < ks.length) : Lg.zqm 0 (ks.take (i + 1)) = Lg.zqm 0 (ks.take i) ++ (if ks[i].kind = 9 then Lg.qjx (Lg.zqm 0 (ks.take i)).length ks[i] ++ [Lg.rtI ks[i].pos] else []) := by
 rw [List.take_succ_eq_append_getElem h, qku, Nat.zero_add]
 simp only [Lg.zqm]
theorem zxf (ks : List Tree) (i : Nat) : (Lg.zqm 0 (ks.take i)).length ≤ (Lg.zqm 0 ks).length := by
 have := qku (ks.take i) (ks.drop i) 0
 rw [List.take_append_drop] at this
 rw [this, List.length_append]; omega
def lowerS : Spec := fun ys bx Kr Kp => ∃ n, ys = [.d (qzl n)] ∧ Lg.size n ≤ 4096 ∧ Kr (.d (codD (Lg.qkc n))) nix none
set_option maxHeartbeats 8000000 in
theorem lower_OK : OK Tryz.prog 20 lowerS := by
 refine fn_OK' qzu (E := EV) (sp := spL [(51, .b (zk1 4096)), (52, .b putB)]) qzt qzm (OKs.ok ⟨cblock_OK, ⟨zwp, trivial⟩⟩) func20 rfl ntmps20 results20 call20 [] none ?_
 rintro ys bx Kr Kp ⟨n, rfl, hsz, hK⟩
 refine ⟨[], rfl, trivial, by simp, ?_⟩
 unfold Lg.qkc at hK
 have hs1 := qz4 n
 have hkl : n.kids.length ≤ 4096 := by have := qqj n.kids; omega
 have hbl := Lg.zky 0 n.kids
 simp only [go_sem, push_cast, seval]
 refine ⟨fun h => ?_, fun h => ?_⟩
 · rw [if_neg (by simpa using h)] at hK
   exact ⟨_, qzc (.ag (.cons (.rfl _) (.cons (.nil _ _) (.cons (.nil _ _) .nil)))), hK⟩
 rw [if_pos (by simpa using h)] at hK
 refine qzk (T := { q : List (List UInt8) × List Inst × Nat // q.2.2 ≤ n.kids.length ∧ q.1 = ((n.kids.take q.2.2).filter Lg.isPar).map Tree.text ∧ q.2.1 = Lg.zqm 0 (n.kids.take q.2.2) })
  (fun q => ⟨51, put 2 (.bp 2 0) (put 3 (.bp 3 0) (put 4 (.bp 15 0) (put 17 (.d (.sl 5 (qzh n.kids) false)) (put 18 (.d (.int .i64 n.kids.length)) (put 19 (.d (.int .i64 q.1.2.2)) nix))))), put 2 ⟨[.d (.st []), .d (.imm (.slice none 0 0)), .d (.imm (.slice none 0 0))], 49⟩ (put 3 ⟨[.d (.st n.text), owLV 32 1 (q.1.1.map .st), .d (.imm (.slice none 0 0))], 49⟩ (put 15 ⟨[owLV 2960 11 (q.1.2.1.map insD)], 114⟩ nix)), owAr 32 1 9 (q.1.1.map .st) (owAr 2960 11 81 (q.1.2.1.map insD) nix)⟩) (fun q => n.kids.length - q.1.2.2) ⟨([], [], 0), by simp, rfl, by simp [Lg.zqm]⟩
  (qzv (qza rfl (qza rfl (qza rfl (qza rfl (qza rfl (qza rfl qzb)))))) (qza rfl (qza rfl (qza rfl qzb))) qzb) ?_
 rintro ⟨⟨ps, X, i⟩, g1, g2, g3⟩
 have hi : i ≤ n.kids.length := g1
 have hps : ps = ((n.kids.take i).filter Lg.isPar).map Tree.text := g2
 have hX : X = Lg.zqm 0 (n.kids.take i) := g3
 dsimp only
 clear g1 g2 g3
 have hpl : ps.length ≤ i := by rw [hps, List.length_map]; exact Nat.le_trans (List.length_filter_le ..) (by rw [List.length_take]; omega)
 have hxl : X.length ≤ 20000 := by have := zxf n.kids i; rw [hX]; omega
 obtain ⟨X₀, hX0⟩ : ∃ X₀, X₀ = X := ⟨_, rfl⟩
 rcases ps with _ | ⟨z1, ps⟩ <;> rcases X with _ | ⟨z2, X⟩
 all_goals
  simp only [List.map_nil, List.map_cons, List.length_map, go_sem, push_cast, seval]
  refine ⟨fun h => ?_, fun h => ?_⟩
  · have hlt : i < n.kids.length := by have := of_decide_eq_true h; omega
    have hnp := zkr (p := Lg.isPar) hlt
    have hnX := bodyC_snoc hlt
    have hxl2 : (Lg.zqm 0 (n.kids.take (i + 1))).length ≤ 20000 := by have := zxf n.kids (i + 1); omega
    rw [← hX] at hnX
    refine ⟨by omega, by omega, ?_⟩
    rw [Int.toNat_natCast, qqi hlt]
    simp only [qzj, go_sem, push_cast, seval]
    refine ⟨fun h7 => ?_, fun h7 => ⟨fun h9 => ?_, fun h9 => ?_⟩⟩
    · have h7' : n.kids[i].kind = 7 := by simpa using h7
      rw [if_neg (by omega), List.append_nil] at hnX
      rw [if_pos (by simpa [Lg.isPar] using h7')] at hnp
      repeat' apply And.intro
      all_goals first
       | omega
       | (simp only [List.length_cons] at hpl; omega)
       | exact ⟨⟨(_ ++ [n.kids[i].text], _, i + 1), hlt, by rw [hnp, List.map_append, ← hps]; rfl, hnX.symm⟩, qzv (qza rfl (qza rfl (qza rfl (qza rfl (qza rfl (qza rfl qzb)))))) (qza rfl (qza (by first | rfl | (simp [put, owLV]; done)) (qza (by first | rfl | (simp [put, owLV]; done)) qzb))) (qz5 (fun _ => by simp [put]; done) (qz5 (fun h => by first | rfl | exact absurd rfl h) qzb)), by show n.kids.length - (i + 1) < n.kids.length - i; omega⟩
    · have h9' : n.kids[i].kind = 9 := by simpa using h9
      rw [if_pos h9'] at hnX
      rw [if_neg (by simp [Lg.isPar]; omega), List.append_nil] at hnp
      obtain ⟨B, hB⟩ : ∃ B, B = Lg.qjx X₀.length n.kids[i] := ⟨_, rfl⟩
      have hnX' : Lg.zqm 0 (n.kids.take (i + 1)) = X₀ ++ B ++ [Lg.rtI n.kids[i].pos] := by rw [hnX, hB, hX0, List.append_assoc]
      have hlB : X₀.length + B.length + 1 ≤ 20000 := by rw [hnX'] at hxl2; simp only [List.length_append, List.length_cons, List.length_nil] at hxl2; omega
      have hBl : Lg.qjx (X₀.map insD).length n.kids[i] = B := by rw [hB, List.length_map]
      have hsk : Lg.sizes n.kids[i].kids ≤ 4096 := by have := qjh hlt; have := qz4 n.kids[i]; omega
      refine ⟨X₀.map insD, n.kids[i], rfl, hsk, Nat.le_refl _, by rw [hX0]; first | rfl | (simp [put, lowB, owLV]; done), (fun h => by rw [hX0] at h ⊢; first | rfl | exact absurd rfl h), by rw [hBl]; simp only [List.length_map]; omega, ?_⟩
      rw [hBl]
      have hql : (X₀.map insD ++ B.map insD).length + 1 ≤ 20000 := by simp only [List.length_append, List.length_map]; omega
      have hfin : (X₀ ++ B ++ [Lg.rtI n.kids[i].pos]).map insD = X₀.map insD ++ B.map insD ++ [insD (Lg.rtI n.kids[i].pos)] := by simp
      generalize X₀.map insD ++ B.map insD = Q at hql hfin ⊢
      rcases Q with _ | ⟨q, Q⟩
      all_goals
       simp only [lowB, go_sem, push_cast, seval]
       refine ⟨_, Lg.rtI n.kids[i].pos, rfl, rfl, (fun h => by first | rfl | exact absurd rfl h), by simp only [List.length_cons, List.length_nil] at hql ⊢; omega, ?_⟩
       simp only [lowB, List.cons_append, List.nil_append, go_sem, push_cast, seval]
       exact ⟨⟨by omega, by omega⟩, ⟨(_, X₀ ++ B ++ [Lg.rtI n.kids[i].pos], i + 1), hlt, by rw [hnp, ← hps], hnX'.symm⟩, qzv (qza rfl (qza rfl (qza rfl (qza rfl (qza rfl (qza rfl qzb)))))) (qza rfl (qza (by first | rfl | (simp [put, owLV]; done)) (qza (by show _ = some (Box.mk [owLV 2960 11 (List.map insD (X₀ ++ B ++ [Lg.rtI n.kids[i].pos]))] 114); rw [hfin]; rfl) qzb))) (qz5 (fun h => by first | rfl | exact absurd rfl h) (qz5 (fun _ => by show _ = some (_, _, List.map insD (X₀ ++ B ++ [Lg.rtI n.kids[i].pos])); rw [hfin]; rfl) qzb)), by show n.kids.length - (i + 1) < n.kids.length - i; omega⟩
    · have h9' : ¬ n.kids[i].kind = 9 := by simpa using h9
      rw [if_neg h9', List.append_nil] at hnX
      rw [if_neg (by simpa [Lg.isPar] using h7), List.append_nil] at hnp
      exact ⟨⟨by omega, by omega⟩, ⟨(_, _, i + 1), hlt, by rw [hnp, ← hps], hnX.symm⟩, qzv (qza rfl (qza rfl (qza rfl (qza rfl (qza rfl (qza rfl qzb)))))) (qza rfl (qza (by first | rfl | (simp [put, owLV]; done)) (qza (by first | rfl | (simp [put, owLV]; done)) qzb))) (qz5 (fun h => by first | rfl | exact absurd rfl h) (qz5 (fun h => by first | rfl | exact absurd rfl h) qzb)), by show n.kids.length - (i + 1) < n.kids.length - i; omega⟩
  · have hie : i = n.kids.length := by have := of_decide_eq_false h; omega
    rw [hie, List.take_length] at hX hps
    rw [← hX, ← hps] at hK
    exact ⟨_, qzc (.ag (.cons (.rfl _) (.cons (by first | exact .nil _ _ | exact .sl (D.les.refl _) (fun e => by cases e)) (.cons (by first | exact .nil _ _ | exact .sl (zvp (_ :: _)) (fun e => by cases e)) .nil)))), hK⟩
open Go
open Lg (Tok Tree Trm Inst Cod)
open Go.Proofs (Tryz.prog)
open Go.Proofs.Tryz
def csD (x : D) (cs : List Cod) : Prop := (∃ f, x = .sl 3 (cs.map codD) f) ∨ cs = [] ∧ x = .imm (.slice none 0 0)
@[push_cast] theorem codD_el (c : Cod) : (codD c).el 3 = true := (rfl)
@[push_cast] theorem codD_flat (c : Cod) : (codD c).flat = true := (rfl)
def nbx (s : List UInt8) : Box := ⟨[.d (.st s)], 9⟩
@[go_sem ↓] theorem nbx_ok (s : List UInt8) : (allD (nbx s).cells).isSome = true := (rfl)
@[go_sem ↓] theorem nbx_fz (r n : Nat) (x : D) (s : List UInt8) : Box.fz r n x (nbx s) = nbx s := (rfl)
@[go_sem ↓] theorem nbx_fgt (k : Nat) (s : List UInt8) : Box.fgt k (nbx s) = nbx s := (rfl)
def pickC : Spec := fun ys bx Kr Kp => ∃ s c, ys = [.d (codD c), .bp 1000 0] ∧ bx 1000 = some (nbx s) ∧ Kr (.d (.bool (Lg.qxw s c))) (put 1000 (nbx s) nix) none
theorem pick1_OK : OK Tryz.prog 50 pickC := by
 refine fn_OK' qzu (E := EV) (sp := spL []) qzt qzm (OKs.ok trivial) func50 rfl ntmps50 results50 call50 [1000] none ?_
 rintro ys bx Kr Kp ⟨s, c, rfl, hb, hK⟩
 refine ⟨[(1000, nbx s)], rfl, ⟨by decide, hb, trivial⟩, by simp, ?_⟩
 simp only [nbx, codD, go_sem, push_cast, seval]
 exact ⟨_, qzc (.rfl _), hK⟩
def ixcS : Spec := fun ys bx Kr Kp => ∃ s l x0, csD x0 l ∧ ys = [.d x0, .fn (.func 50) [] [.bp 1000 0]] ∧ bx 1000 = some (nbx s) ∧ l.length ≤ 2000000 ∧
 Kr (.d (.int .i64 (Lg.idxF (Lg.qxw s) l 0))) (put 1000 (nbx s) nix) none
theorem ixc_OK : OK Tryz.prog 49 ixcS := by
 refine fn_OK' qzu (E := EV) (sp := spL [(50, pickC)]) qzt qzm (OKs.ok ⟨pick1_OK, trivial⟩) func49 rfl ntmps49 results49 call49 [1000] none ?_
 rintro ys bx Kr Kp ⟨s, l, x0, hx0, rfl, hb, hl, hK⟩
 refine ⟨[(1000, nbx s)], rfl, ⟨by decide, hb, trivial⟩, by simp, ?_⟩
 rcases hx0 with ⟨fl, rfl⟩ | ⟨rfl, rfl⟩
 · simp only [List.length_map, go_sem, push_cast, seval]
   refine qzk (T := { i : Nat // i ≤ l.length ∧ Lg.idxF (Lg.qxw s) l 0 = Lg.idxF (Lg.qxw s) (l.drop i) i }) (fun i => ⟨19, put 0 (.d (.sl 3 (l.map codD) fl)) (put 1 (.fn (.func 50) [] [.bp 1000 0]) (put 7 (.d (.int .i64 l.length)) (put 8 (.d (.int .i64 i.1)) nix))), put 1000 (nbx s) nix, nix⟩) (fun i => l.length - i.1) ⟨0, by omega, rfl⟩
    ⟨rfl, qza rfl (qza rfl (qza rfl (qza rfl qzb))), qza rfl qzb, qzb⟩ ?_
   rintro ⟨i, hi, hx⟩
   simp only [List.length_map, go_sem, push_cast, seval]
   refine ⟨fun h => ?_, fun h => ?_⟩
   · have hlt : i < l.length := by have := of_decide_eq_true h; omega
     rw [List.drop_eq_getElem_cons hlt, Lg.idxF] at hx
     refine ⟨by omega, by omega, ?_⟩
     rw [Int.toNat_natCast, List.getElem?_map, List.getElem?_eq_getElem hlt, Option.map_some]
     simp only [codD, go_sem, push_cast, seval]
     refine ⟨s, l[i], rfl, rfl, ?_⟩
     simp only [go_sem, push_cast, seval]
     refine ⟨fun h => ?_, fun h => ?_⟩
     · rw [if_pos h] at hx
       rw [hx] at hK
       exact ⟨_, qzc (.rfl _), hK⟩
     · rw [if_neg (by rw [h]; decide)] at hx
       exact ⟨⟨by omega, by omega⟩, ⟨i + 1, hlt, hx⟩, ⟨rfl, qza rfl (qza rfl (qza rfl (qza rfl qzb))), qza rfl qzb, qzb⟩, by show l.length - (i + 1) < l.length - i; omega⟩
   · have : i = l.length := by have := of_decide_eq_false h; omega
     subst this
     rw [List.drop_length, Lg.idxF] at hx
     rw [hx] at hK
     exact ⟨_, qzc (.rfl _), hK⟩
 · simp only [go_sem, push_cast, seval]
   refine qzk (T := Unit) (fun i => ⟨19, put 7 (.d (.int .i64 0)) (put 8 (.d (.int .i64 0)) nix), put 1000 (nbx s) nix, nix⟩) (fun i => 0) ()
    ⟨rfl, qza rfl (qza rfl qzb), qza rfl qzb, qzb⟩ ?_
   rintro ⟨⟩
   simp only [go_sem, push_cast, seval]
   exact ⟨fun h => absurd h (by decide), fun _ => ⟨_, qzc (.rfl _), hK⟩⟩
def cfindS : Spec := fun ys bx Kr Kp => ∃ s cs x0 libs main, csD x0 cs ∧ ys = [.d (.ag [x0, .int .i64 libs, .int .i64 main]), .d (.st s)] ∧ cs.length ≤ 2000000 ∧
 Kr (.tup [.d (.int .i64 (Lg.findC cs libs s).1), .d (.bool (Lg.findC cs libs s).2.1), .d (.bool (Lg.findC cs libs s).2.2)]) nix none
theorem zv1 {x0 : D} {cs : List Cod} (h : csD x0 cs) : one (.d x0) = true := by
 rcases h with ⟨f, rfl⟩ | ⟨rfl, rfl⟩ <;> rfl
theorem cfind_OK : OK Tryz.prog 19 cfindS := by
 refine fn_OK' qzu (E := EV) (sp := spL [(49, ixcS)]) qzt qzm (OKs.ok ⟨ixc_OK, trivial⟩) func19 rfl ntmps19 results19 call19 [] none ?_
 rintro ys bx Kr Kp ⟨s, cs, x0, libs, main, hx0, rfl, hl, hK⟩
 refine ⟨[], rfl, trivial, by simp, ?_⟩
 have ho := zv1 hx0
 simp only [ho, go_sem, push_cast, seval]
 refine ⟨s, cs, x0, hx0, rfl, rfl, hl, ?_⟩
 simp only [nbx, go_sem, push_cast, seval]
 unfold Lg.findC at hK
 refine ⟨fun h => ?_, fun h => ?_⟩
 · rw [if_pos (of_decide_eq_true h)] at hK
   exact ⟨_, .cons (.rfl _) (.cons (.rfl _) (.cons (.rfl _) .nil)), hK⟩
 · rw [if_neg (of_decide_eq_false h)] at hK
   refine qzq [2] [] (.take 0 (.take 1 (.take 2 (.take 5 (.rd 3 (.rd 4 (.take 6 (.take 7 .done)))))))) (by kernel_rfl) (by kernel_rfl) ?_
   simp only [go_sem, push_cast, seval]
   exact ⟨_, .cons (.rfl _) (.cons (.rfl _) (.cons (.rfl _) .nil)), hK⟩
def cfnsS : Spec := fun ys bx Kr Kp => ∃ n, ys = [.d (qzl n)] ∧ n.kids.length ≤ 4096 ∧ Kr (.d (.sl 5 (qzh (Lg.fns n)) false)) nix none
theorem cfns_OK : OK Tryz.prog 18 cfnsS := by
 refine fn_OK' qzu (E := EV) (sp := spL []) qzt qzm (OKs.ok trivial) func18 rfl ntmps18 results18 call18 [] none ?_
 rintro ys bx Kr Kp ⟨n, rfl, hn, hK⟩
 refine ⟨[], rfl, trivial, by simp, ?_⟩
 simp only [go_sem, push_cast, seval]
 refine qzk (T := { q : List Tree × Nat // q.2 ≤ n.kids.length ∧ q.1 = (n.kids.take q.2).filter Lg.isFn }) (fun q => ⟨22, put 3 (owLV 19 5 (qzh q.1.1)) (put 7 (.d (.sl 5 (qzh n.kids) false)) (put 8 (.d (.int .i64 n.kids.length)) (put 9 (.d (.int .i64 q.1.2)) nix))), nix, owAr 19 5 25 (qzh q.1.1) nix⟩) (fun q => n.kids.length - q.1.2) ⟨([], 0), by simp, rfl⟩
  (qzv (qza rfl (qza rfl (qza rfl (qza rfl qzb)))) qzb qzb) ?_
 rintro ⟨⟨l, i⟩, g1, g2⟩
 have hi : i ≤ n.kids.length := g1
 have hl : l = (n.kids.take i).filter Lg.isFn := g2
 dsimp only
 clear g1 g2
 have hll : l.length ≤ i := by rw [hl]; exact Nat.le_trans (List.length_filter_le ..) (by rw [List.length_take]; omega)
 rcases l with _ | ⟨x, l⟩
 all_goals
  simp only [qzh, go_sem, push_cast, seval]
  refine ⟨fun h => ?_, fun h => ?_⟩
  · have hlt : i < n.kids.length := by have := of_decide_eq_true h; omega
    have hnp := zkr (p := Lg.isFn) hlt
    refine ⟨by omega, by omega, ?_⟩
    rw [Int.toNat_natCast, qqi hlt]
    simp only [qzj, go_sem, push_cast, seval]
    refine ⟨fun h6 => ?_, fun h6 => ?_⟩
    · rw [if_pos (show Lg.isFn n.kids[i] = true from h6), ← hl] at hnp
      simp only [List.length_cons, List.length_nil] at hll
      repeat' apply And.intro
      all_goals first
       | omega
       | exact ⟨⟨(_, i + 1), hlt, hnp.symm⟩, qzv (qza (by simp [put, owLV, qz2, qzp, qzh]; done) (qza rfl (qza rfl (qza rfl qzb)))) qzb (qz5 (fun _ => by simp [put, qz2, qzp, qzh]; done) qzb), by show n.kids.length - (i + 1) < n.kids.length - i; omega⟩
    · rw [if_neg (by unfold Lg.isFn; simp [h6]), List.append_nil, ← hl] at hnp
      exact ⟨⟨by omega, by omega⟩, ⟨(_, i + 1), hlt, hnp.symm⟩, qzv (qza (by first | rfl | (simp [put, owLV, qzh, qzp]; done)) (qza rfl (qza rfl (qza rfl qzb)))) qzb (qz5 (fun h => by first | rfl | exact absurd rfl h) qzb), by show n.kids.length - (i + 1) < n.kids.length - i; omega⟩
  · have hie : i = n.kids.length := by have := of_decide_eq_false h; omega
    rw [hie, List.take_length] at hl
    unfold Lg.fns at hK
    rw [← hl] at hK
    exact ⟨_, qzc (by first | exact .nil _ _ | exact .rfl _), hK⟩
theorem qvl {cs : List Cod} {i : Nat} (h : i < cs.length) : (cs.map codD)[i]? = some (codD cs[i]) := by simp [h]
def wantS : Spec := fun ys bx Kr Kp => ∃ (i : Inst) (cs : List Cod) (x0 : D) (libs main : Int), csD x0 cs ∧ ys = [.d (.ag [x0, .int .i64 libs, .int .i64 main]), .d (insE i)] ∧ cs.length ≤ 2000000 ∧ Kr (.d (.int .i64 (Lg.wantI cs libs i))) nix none
set_option maxHeartbeats 4000000 in
theorem want_OK : OK Tryz.prog 21 wantS := by
 refine fn_OK' qzu (E := EV) (sp := spL [(19, cfindS)]) qzt qzm (OKs.ok ⟨cfind_OK, trivial⟩) func21 rfl ntmps21 results21 call21 [] none ?_
 rintro ys bx Kr Kp ⟨i, cs, x0, libs, main, hx0, rfl, hl, hK⟩
 refine ⟨[], rfl, trivial, by simp, ?_⟩
 have ho := zv1 hx0
 unfold Lg.wantI at hK
 by_cases h : i.op ≠ 12 ∧ i.op ≠ 13
 · rw [if_pos h] at hK
   have b12 : (i.op == 12) = false := by simpa using h.1
   have b13 : (i.op == 13) = false := by simpa using h.2
   simp only [ho, insE, b12, b13, bne, Bool.not_false, Bool.not_true, bne_self_eq_false, beq_self_eq_true, Bool.false_eq_true, Bool.true_eq_false, false_implies, true_implies, true_and, and_true, eq_self, go_sem, push_cast, seval]
   exact ⟨_, qzc (.rfl _), hK⟩
 rw [if_neg h] at hK
 have hop : i.op = 12 ∨ i.op = 13 := by omega
 have q1 : (true == false) = false := rfl
 have q2 : (false == true) = false := rfl
 have hr := Lg.zq7 (Lg.qxw i.y) cs 0
 obtain ⟨t, ht⟩ : ∃ t, t = Lg.idxF (Lg.qxw i.y) cs 0 := ⟨_, rfl⟩
 rw [← ht] at hK hr
 obtain ⟨b1, hb1⟩ : ∃ b1, b1 = (i.op == 12) := ⟨_, rfl⟩
 obtain ⟨b2, hb2⟩ : ∃ b2, b2 = (i.op == 13) := ⟨_, rfl⟩
 have hbb : (b1 = true ∧ b2 = false ∧ i.op = 12) ∨ (b1 = false ∧ b2 = true ∧ i.op = 13) := by
  rcases hop with e | e
  · left; rw [hb1, hb2, e]; exact ⟨rfl, rfl, rfl⟩
  · right; rw [hb1, hb2, e]; exact ⟨rfl, rfl, rfl⟩
 by_cases hneg : t < 0
 · have hf : Lg.findC cs libs i.y = (0, false, false) := by unfold Lg.findC; rw [if_pos (ht ▸ hneg)]
   rw [if_pos (.inl hneg)] at hK
   rcases hbb with ⟨rfl, rfl, e⟩ | ⟨rfl, rfl, e⟩
   all_goals
    simp only [ho, insE, ← hb1, ← hb2, bne, Bool.not_false, Bool.not_true, bne_self_eq_false, beq_self_eq_true, Bool.false_eq_true, Bool.true_eq_false, false_implies, true_implies, true_and, and_true, eq_self, go_sem, push_cast, seval]
    refine ⟨i.y, cs, x0, libs, main, hx0, rfl, hl, ?_⟩
    simp only [hf, ← hb1, ← hb2, Bool.not_false, Bool.not_true, bne_self_eq_false, beq_self_eq_true, Bool.false_eq_true, Bool.true_eq_false, false_implies, true_implies, true_and, and_true, eq_self, go_sem, push_cast, seval]
    exact ⟨_, qzc (.rfl _), hK⟩
 · have hf : Lg.findC cs libs i.y = (t, decide (t < libs), true) := by unfold Lg.findC; rw [if_neg (ht ▸ hneg), ← ht]
   have h1 : t.toNat < cs.length := by omega
   have h0 : 0 ≤ t := by omega
   have h2 : t < cs.length := by omega
   obtain ⟨f, rfl⟩ : ∃ f, x0 = .sl 3 (cs.map codD) f := by
    rcases hx0 with h | ⟨rfl, _⟩
    · exact h
    · simp at h1
   rw [List.getElem?_eq_getElem h1] at hK
   obtain ⟨lb, hlb⟩ : ∃ lb, lb = decide (t < libs) := ⟨_, rfl⟩
   rw [← hlb] at hf
   by_cases hlt : t < libs
   all_goals
    have hlb' : lb = decide (t < libs) := hlb
    simp only [hlt, decide_true, decide_false] at hlb'
    subst hlb'
    rcases hbb with ⟨rfl, rfl, e⟩ | ⟨rfl, rfl, e⟩
    all_goals
     simp only [hneg, hlt, e, false_or, true_iff, false_iff, Int.reduceEq, not_true, not_false_iff, ↓reduceIte] at hK
     simp only [insE, ← hb1, ← hb2, bne, Bool.not_false, Bool.not_true, bne_self_eq_false, beq_self_eq_true, Bool.false_eq_true, Bool.true_eq_false, false_implies, true_implies, true_and, and_true, eq_self, go_sem, push_cast, seval]
     refine ⟨i.y, cs, _, libs, main, .inl ⟨f, rfl⟩, rfl, hl, ?_⟩
     simp only [hf, ← hb1, ← hb2, bne, q1, q2, Bool.not_false, Bool.not_true, bne_self_eq_false, beq_self_eq_true, Bool.false_eq_true, Bool.true_eq_false, false_implies, true_implies, true_and, and_true, eq_self, go_sem, push_cast, seval]
     first
      | exact ⟨_, qzc (.rfl _), hK⟩
      | (refine qzq [2, 3] [] (.take 0 (.take 2 (.take 7 (.rd 1 (.rd 3 (.take 4 (.rd 5 (.rd 6 (.rd 8 (.rd 9 (.rd 10 (.take 11 .done)))))))))))) (by kernel_rfl) (by kernel_rfl) ?_
         simp only [qvl h1, codD, List.length_map, h0, h2, go_sem, push_cast, seval]
         refine ⟨fun h => ?_, fun h => ?_⟩
         · rw [if_neg (by have := bne_iff_ne.1 h; omega)] at hK
           exact ⟨_, qzc (.rfl _), hK⟩
         · rw [if_pos (by have := bne_eq_false_iff_eq.1 h; omega)] at hK
           exact ⟨_, qzc (.rfl _), hK⟩)
end Lx
