/-
  LinkGoes.
-/
import Derived.Test.YtmebnccnmhndiaaDoorKw
import Derived.Test.YtmebnccnmhndiaaDoorKq
import Derived.Test.YtmebnccnmhndiaaDoorLv
set_option linter.unusedSimpArgs false
set_option linter.unusedVariables false
set_option maxRecDepth 20000
namespace Lx
open Go
open Lg (Tok Tree Trm Inst Cod Img)
open Go.Proofs (Tryd.prog)
open Go.Proofs.Tryd

theorem parseG {l : List UInt8} {ys : List LV} {bx : Bx} {Kr : LV → Bx → Ar1 → Prop} {Kp : D → Bx → Prop} (hy : ys = [.d (.st l)])
    (h : ∀ (t : Tree) (a c : Int), Lg.size t ≤ 4096 → ((c != 0) = false ∧ Lg.parse l = .ok t ∨ (c != 0) = true) → Kr (.tup [.d (treeD t), .d (.int .i64 a), .d (.int .i64 c)]) nix none) : parseS ys bx Kr Kp := by
  refine ⟨l, hy, ?_⟩
  cases hp : Lg.parse l with
  | error q => exact h _ q.1 q.2 (by decide) (.inr (by simp; exact Lg.parse_code hp))
  | ok t => exact h t 0 0 (Lg.parse_well hp).2 (.inl ⟨rfl, hp⟩)
/-- The names, each counted once. -/
def cnt : List Cod → List LV
  | [] => []
  | c :: cs => .d (.st c.name) :: .d (.int .i64 1) :: cnt cs
theorem cnt_app : ∀ (cs ds : List Cod), cnt (cs ++ ds) = cnt cs ++ cnt ds
  | [], ds => rfl
  | c :: cs, ds => by rw [List.cons_append, cnt, cnt_app cs ds]; rfl
theorem cnt_snoc {cs : List Cod} {i : Nat} (h : i < cs.length) : cnt (cs.take (i + 1)) = cnt (cs.take i) ++ [.d (.st cs[i].name), .d (.int .i64 1)] := by
  rw [List.take_succ_eq_append_getElem h, cnt_app]; rfl
theorem cnt_keys {i : TI} (hi : i.desc = .str) : ∀ cs : List Cod, mkeys i (cnt cs) = true
  | [] => rfl
  | c :: cs => by rw [cnt, mkeys_cons, cnt_keys hi cs, Bool.and_true]; simp only [kof, hi]
theorem cnt_none {s : List UInt8} : ∀ {cs : List Cod}, (∀ c ∈ cs, c.name ≠ s) → mfind (.st s) (cnt cs) = none
  | [], _ => rfl
  | c :: cs, h => by
    rw [cnt, mfind_cons, cnt_none (fun d hd => h d (by simp [hd])), if_neg]
    · rfl
    · simp only [keq, beq_iff_eq]; exact fun e => h c (by simp) e.symm
theorem cnt_some : ∀ {cs : List Cod} {i : Nat} (h : i < cs.length), Lg.Dist cs → mfind (.st cs[i].name) (cnt cs) = some i
  | c :: cs, 0, _, _ => by rw [cnt, mfind_cons, if_pos (by simp [keq])]
  | c :: cs, i + 1, h, hd => by
    obtain ⟨h1, h2⟩ := List.pairwise_cons.1 hd
    have hlt : i < cs.length := by simpa using h
    rw [cnt, mfind_cons, if_neg, List.getElem_cons_succ, cnt_some hlt h2]
    · rfl
    · simp only [keq, beq_iff_eq, List.getElem_cons_succ]
      exact fun e => h1 _ (List.getElem_mem hlt) e.symm
theorem cnt_get : ∀ {cs : List Cod} {i : Nat}, i < cs.length → (cnt cs)[2 * i + 1]? = some (.d (.int .i64 1))
  | c :: cs, 0, _ => rfl
  | c :: cs, i + 1, h => by
    have := cnt_get (cs := cs) (i := i) (by simpa using h)
    rw [cnt, show 2 * (i + 1) + 1 = (2 * i + 1) + 1 + 1 by omega, List.getElem?_cons_succ, List.getElem?_cons_succ, this]
@[push_cast] theorem cnt_fgts (k : Nat) : ∀ cs : List Cod, fgts k (cnt cs) = cnt cs
  | [] => rfl
  | c :: cs => by rw [cnt, fgts, fgts, cnt_fgts k cs]; rfl
theorem cnt_fzbL (k : Nat) (xs : List D) : ∀ cs : List Cod, fzbL k xs (cnt cs) = cnt cs
  | [] => rfl
  | c :: cs => by rw [cnt, fzbL, fzbL, cnt_fzbL k xs cs]; rfl
theorem dist_take {cs : List Cod} {i : Nat} (h : i < cs.length) (hd : Lg.Dist cs) : ∀ c ∈ cs.take i, c.name ≠ cs[i].name := by
  intro c hc
  obtain ⟨j, hj, e⟩ := List.getElem_of_mem hc
  rw [List.length_take] at hj
  rw [List.getElem_take] at e
  rw [← e]
  exact List.pairwise_iff_getElem.1 hd j i (by omega) h (by omega)
theorem want_goes {cs : List Cod} {libs : Int} {i : Inst} (h : Lg.wantI cs libs i = 0) (hg : i.op = 12 ∨ i.op = 13) : ∃ (j : Nat) (hj : j < cs.length), Lg.findC cs libs i.y = ((j : Int), i.op == 12, true) ∧ cs[j].params.length = i.args.length := by
  unfold Lg.wantI at h
  rw [if_neg (by omega)] at h
  have hr := Lg.idxF_range (Lg.cnamed i.y) cs 0
  unfold Lg.findC
  generalize Lg.idxF (Lg.cnamed i.y) cs 0 = q at h hr ⊢
  split at h
  · cases h
  rename_i hn
  have hq : ¬ q < 0 := fun e => hn (.inl e)
  have hiff : q < libs ↔ i.op = 12 := Decidable.not_not.1 fun e => hn (.inr e)
  have hlt : q.toNat < cs.length := by omega
  rw [List.getElem?_eq_getElem hlt] at h
  simp only at h
  split at h
  · rename_i hl
    refine ⟨q.toNat, hlt, ?_, hl⟩
    rw [if_neg hq, show ((q.toNat : Nat) : Int) = q by omega]
    refine congrArg _ (congrArg (·, true) ?_)
    rw [Bool.eq_iff_iff]
    simpa using hiff
  · cases h
def trueK4 : Spec := fun ys bx Kr _ => ∃ l m : List UInt8, ys = [.d (.st l), .d (.st m)] ∧ l.length ≤ 140737488351232 ∧ m.length ≤ 140737488351232 ∧ Kr (.d (.bool true)) nix none
theorem lawGoes_OK_of {l m : List UInt8} {Kr : LV → Bx → Ar1 → Prop} {Kp : D → Bx → Prop} {bx : Bx} (h1 : l.length ≤ 140737488351232) (h2 : m.length ≤ 140737488351232) (hK : Kr (.d (.bool true)) nix none) : trueK4 [.d (.st l), .d (.st m)] bx Kr Kp := ⟨l, m, rfl, h1, h2, hK⟩
theorem lowerT_len' (n : Tree) : (Lg.lowerT n).list.length ≤ 3 * Lg.size n := lowerT_len n
set_option maxHeartbeats 8000000 in
theorem lawGoes_OK : OK Tryd.prog 4 trueK4 := by
  refine fn_OK' mixes (E := EV) (sp := spL [(10, parseS), (9, wakeK), (11, linkS), (8, cfindS)]) tl_ok tl_zok (OKs.ok ⟨Parse_OK, ⟨wakeK_OK, ⟨link_OK, ⟨cfind_OK, trivial⟩⟩⟩⟩) func4 rfl ntmps4 results4 call4 [] none ?_
  rintro ys bx Kr Kp ⟨l, m, rfl, hl, hm, hK⟩
  refine ⟨[], rfl, trivial, by simp, ?_⟩
  simp only [go_sem, push_cast, seval, ↓reduceIte, reduceCtorEq, Nat.zero_add, Nat.add_zero, Nat.zero_le, Nat.succ_ne_zero]
  refine parseG rfl fun a p1 c1 hsa h1 => ?_
  simp only [go_sem, push_cast, seval, ↓reduceIte, reduceCtorEq, Nat.zero_add, Nat.add_zero, Nat.zero_le, Nat.succ_ne_zero]
  refine parseG rfl fun b p2 c2 hsb h2 => ?_
  simp only [go_sem, push_cast, seval, ↓reduceIte, reduceCtorEq, Nat.zero_add, Nat.add_zero, Nat.zero_le, Nat.succ_ne_zero]
  refine ⟨rfl, ?_⟩
  by_cases hall : (c1 != 0) = false ∧ (c2 != 0) = false
  rotate_left
  · rcases h1 with ⟨e1, h1⟩ | e1 <;> rcases h2 with ⟨e2, h2⟩ | e2
    · exact absurd ⟨e1, e2⟩ hall
    all_goals
      clear hall
      simp only [e1, e2, Bool.not_true, bne_self_eq_false, beq_self_eq_true, Bool.false_eq_true, Bool.true_eq_false, false_implies, true_implies, true_and, and_true, eq_self, go_sem, push_cast, seval, ↓reduceIte, reduceCtorEq, Nat.zero_add, Nat.add_zero, Nat.zero_le, Nat.succ_ne_zero]
      refine ⟨rfl, ?_⟩
      simp only [go_sem, push_cast, seval, ↓reduceIte, reduceCtorEq, Nat.zero_add, Nat.add_zero, Nat.zero_le, Nat.succ_ne_zero]
      exact ⟨_, le_one (.rfl _), hK⟩
  obtain ⟨e1, e2⟩ := hall
  simp only [e1, e2, Bool.not_true, bne_self_eq_false, beq_self_eq_true, Bool.false_eq_true, Bool.true_eq_false, false_implies, true_implies, true_and, and_true, eq_self, go_sem, push_cast, seval, ↓reduceIte, reduceCtorEq, Nat.zero_add, Nat.add_zero, Nat.zero_le, Nat.succ_ne_zero]
  refine ⟨a, b, by rw [tree_agk, tree_agk], hsa, hsb, ?_⟩
  unfold linkP
  cases hk : Lg.linkR a b with
  | error e =>
    obtain ⟨p, w, c⟩ := e
    have b0 : (c != 0) = true := by simpa using (Lg.linkR_err hk).1
    simp only [imgD, b0, List.map_nil, List.length_nil, bne_self_eq_false, beq_self_eq_true, Bool.false_eq_true, Bool.true_eq_false, false_implies, true_implies, true_and, and_true, eq_self, go_sem, push_cast, seval, ↓reduceIte, reduceCtorEq, Nat.zero_add, Nat.add_zero, Nat.zero_le, Nat.succ_ne_zero]
    exact ⟨_, le_one (.rfl _), hK⟩
  | ok im =>
    obtain ⟨hcd, hlb, hdi, hwant, hmain, k, hkl, hk1, hk2⟩ := Lg.linkR_ok hk
    have hak : a.kids.length ≤ 4096 := by have := sizes_len a.kids; have := csize_eq a; omega
    have hbk : b.kids.length ≤ 4096 := by have := sizes_len b.kids; have := csize_eq b; omega
    have hal := fns_len a
    have hbl := fns_len b
    have hcl : im.codes.length ≤ 8192 := by rw [hcd]; simp only [List.length_append, List.length_map]; omega
    simp only [imgD, go_sem, push_cast, seval, ↓reduceIte, reduceCtorEq, Nat.zero_add, Nat.add_zero, Nat.zero_le, Nat.succ_ne_zero]
    refine loop_usez [11] (T := { i : Nat // i ≤ im.codes.length }) (fun i => ⟨158, put 11 (.ep (imgD im) 0) (put 15 (.mp 62) (put 64 (.d (.sl 3 (im.codes.map codD) false)) (put 65 (.d (.int .i64 im.codes.length)) (put 66 (.d (.int .i64 i.1)) nix)))), put 62 ⟨cnt (im.codes.take i.1), 1000000⟩ nix, nix⟩) (fun i => im.codes.length - i.1) ⟨0, by omega⟩ ?_ ?_
    · simp only [imgD, go_sem, push_cast, seval, ↓reduceIte, reduceCtorEq, Nat.zero_add, Nat.add_zero, Nat.zero_le, Nat.succ_ne_zero]
      exact sub_of (subm_put rfl (subm_put rfl (subm_put rfl (subm_put (by simp [put]; done) (subm_put rfl subm_nix))))) (subm_put rfl subm_nix) subm_nix
    rintro ⟨i, hi⟩
    simp only [imgD, List.length_map, go_sem, push_cast, seval, ↓reduceIte, reduceCtorEq, Nat.zero_add, Nat.add_zero, Nat.zero_le, Nat.succ_ne_zero]
    refine ⟨fun h => ?_, fun h => ?_⟩
    · have hlt : i < im.codes.length := by have := of_decide_eq_true h; omega
      have hmk : ∀ cs, mkeys T9 (cnt cs) = true := cnt_keys rfl
      have hmf := cnt_none (dist_take hlt hdi)
      refine ⟨by omega, by omega, ?_⟩
      rw [Int.toNat_natCast, List.getElem?_map, List.getElem?_eq_getElem hlt, Option.map_some]
      simp only [codD, hmk, hmf, go_sem, push_cast, seval, ↓reduceIte, reduceCtorEq, Nat.zero_add, Nat.add_zero, Nat.zero_le, Nat.succ_ne_zero]
      exact ⟨⟨by omega, by omega⟩, ⟨i + 1, hlt⟩, sub_of (subm_put rfl (subm_put rfl (subm_put rfl (subm_put rfl (subm_put rfl subm_nix))))) (subm_put (by rw [cnt_snoc hlt]; rfl) subm_nix) subm_nix, by show im.codes.length - (i + 1) < im.codes.length - i; omega⟩
    · have hie : i = im.codes.length := by have := of_decide_eq_false h; omega
      subst hie
      rw [List.take_length]
      refine loop_use (T := { j : Nat // j ≤ im.codes.length }) (fun j => ⟨158, put 11 (.ep (imgD im) 0) (put 15 (.mp 62) (put 77 (.d (.sl 3 (im.codes.map codD) false)) (put 78 (.d (.int .i64 im.codes.length)) (put 79 (.d (.int .i64 j.1)) nix)))), put 62 ⟨cnt im.codes, 1000000⟩ nix, nix⟩) (fun j => im.codes.length - j.1) ⟨0, by omega⟩
        (sub_of (subm_put rfl (subm_put rfl (subm_put rfl (subm_put rfl (subm_put rfl subm_nix))))) (subm_put rfl subm_nix) subm_nix) ?_
      rintro ⟨j, hj⟩
      have q1 : decide (im.libs ≤ im.main) = true := decide_eq_true hmain
      have q2 : decide (im.main < im.codes.length) = true := decide_eq_true (by omega)
      have hkc : (im.codes.map codD)[im.main.toNat]? = some (codD im.codes[k]) := by rw [hk1, Int.toNat_natCast, List.getElem?_map, List.getElem?_eq_getElem hkl]; rfl
      simp only [imgD, List.length_map, q1, q2, hkc, codD_lcs, codD_flat, hk2, bne_self_eq_false, beq_self_eq_true, Bool.false_eq_true, Bool.true_eq_false, false_implies, true_implies, true_and, and_true, eq_self, go_sem, push_cast, seval, ↓reduceIte, reduceCtorEq, Nat.zero_add, Nat.add_zero, Nat.zero_le, Nat.succ_ne_zero]
      refine ⟨fun h => ?_, fun h => ?_⟩
      · have hlt : j < im.codes.length := by have := of_decide_eq_true h; omega
        have hmk : ∀ cs, mkeys T9 (cnt cs) = true := cnt_keys rfl
        have hms := cnt_some hlt hdi
        have hmg := cnt_get hlt
        have hcj := hwant _ (List.getElem_mem hlt)
        refine ⟨by omega, by omega, ?_⟩
        rw [Int.toNat_natCast, List.getElem?_map, List.getElem?_eq_getElem hlt, Option.map_some]
        simp only [codD, hmk, hms, hmg, List.length_map, bne_self_eq_false, beq_self_eq_true, Bool.false_eq_true, Bool.true_eq_false, false_implies, true_implies, true_and, and_true, eq_self, go_sem, push_cast, seval, ↓reduceIte, reduceCtorEq, Nat.zero_add, Nat.add_zero, Nat.zero_le, Nat.succ_ne_zero]
        have hcm : im.codes[j] ∈ im.codes := List.getElem_mem hlt
        generalize im.codes[j] = c at hcj hcm
        have hln : c.list.length ≤ 100000 := by
          have : ∀ {n : Tree}, Lg.size n ≤ 4096 → ∀ d ∈ (Lg.fns n).map Lg.lowerT, d.list.length ≤ 100000 := fun {n} hn d hd => by
            obtain ⟨f, hf, rfl⟩ := List.mem_map.1 hd
            obtain ⟨x, hx, rfl⟩ := List.getElem_of_mem hf
            have h1 := lowerT_len (Lg.fns n)[x]
            have h2 := fns_size hx
            omega
          rw [hcd] at hcm
          rcases List.mem_append.1 hcm with hcm | hcm
          · exact this hsa c hcm
          · exact this hsb c hcm
        refine loop_use (T := { x : Nat // x ≤ c.list.length }) (fun x => ⟨158, put 11 (.ep (imgD im) 0) (put 15 (.mp 62) (put 77 (.d (.sl 3 (im.codes.map codD) false)) (put 78 (.d (.int .i64 im.codes.length)) (put 79 (.d (.int .i64 j)) (put 89 (.d (.sl 11 (c.list.map insE) false)) (put 90 (.d (.int .i64 c.list.length)) (put 91 (.d (.int .i64 x.1)) nix))))))), put 62 ⟨cnt im.codes, 1000000⟩ nix, nix⟩) (fun x => c.list.length - x.1) ⟨0, by omega⟩
          (sub_of (subm_put rfl (subm_put rfl (subm_put rfl (subm_put rfl (subm_put rfl (subm_put rfl (subm_put rfl (subm_put rfl subm_nix)))))))) (subm_put rfl subm_nix) subm_nix) ?_
        rintro ⟨x, hx⟩
        simp only [List.length_map, go_sem, push_cast, seval, ↓reduceIte, reduceCtorEq, Nat.zero_add, Nat.add_zero, Nat.zero_le, Nat.succ_ne_zero]
        refine ⟨fun h => ?_, fun h => ?_⟩
        · have hxl : x < c.list.length := by have := of_decide_eq_true h; omega
          have hin := hcj _ (List.getElem_mem hxl)
          refine ⟨by omega, by omega, ?_⟩
          rw [Int.toNat_natCast, List.getElem?_map, List.getElem?_eq_getElem hxl, Option.map_some]
          generalize c.list[x] = i0 at hin
          have hgo := want_goes hin
          by_cases hg : i0.op = 12 ∨ i0.op = 13
          · obtain ⟨n, hnl, hfd, hpl⟩ := hgo hg
            have hcn : (im.codes.map codD)[n]? = some (codD im.codes[n]) := by rw [List.getElem?_map, List.getElem?_eq_getElem hnl]; rfl
            have hpq : ((im.codes[n].params.length : Int) != i0.args.length) = false := by rw [hpl]; simp
            rcases hg with hg | hg
            · have b1 : (i0.op != 12) = false := by simp [hg]
              have b3 : (i0.op == 12) = true := by simp [hg]
              rw [b3] at hfd
              simp only [insE, imgD, b1, b3, Bool.not_true, bne_self_eq_false, beq_self_eq_true, Bool.false_eq_true, Bool.true_eq_false, false_implies, true_implies, true_and, and_true, eq_self, go_sem, push_cast, seval, ↓reduceIte, reduceCtorEq, Nat.zero_add, Nat.add_zero, Nat.zero_le, Nat.succ_ne_zero]
              refine ⟨i0.y, im.codes, _, im.libs, im.main, .inl ⟨false, rfl⟩, rfl, by omega, ?_⟩
              rw [hfd]
              simp only [go_sem, push_cast, seval, ↓reduceIte, reduceCtorEq, Nat.zero_add, Nat.add_zero, Nat.zero_le, Nat.succ_ne_zero]
              refine draw_read [21] [] (.take 0 (.rd 1 (.take 2 (.rd 3 (.rd 4 (.rd 5 (.rd 6 (.rd 7 (.rd 8 (.take 9 (.rd 10 (.rd 11 (.rd 12 (.rd 13 (.rd 14 (.rd 15 (.rd 16 (.rd 17 (.rd 18 (.rd 19 (.rd 20 (.rd 21 .done)))))))))))))))))))))) (by kernel_rfl) (by kernel_rfl) ?_
              simp only [insE, b1, b3, Bool.not_true, bne_self_eq_false, beq_self_eq_true, Bool.false_eq_true, Bool.true_eq_false, false_implies, true_implies, true_and, and_true, eq_self, go_sem, push_cast, seval, ↓reduceIte, reduceCtorEq, Nat.zero_add, Nat.add_zero, Nat.zero_le, Nat.succ_ne_zero]
              refine ⟨by omega, by omega, ?_⟩
              rw [Int.toNat_natCast, hcn]
              simp only [codD, List.length_map, hpq, bne_self_eq_false, beq_self_eq_true, Bool.false_eq_true, Bool.true_eq_false, false_implies, true_implies, true_and, and_true, eq_self, go_sem, push_cast, seval, ↓reduceIte, reduceCtorEq, Nat.zero_add, Nat.add_zero, Nat.zero_le, Nat.succ_ne_zero]
              exact ⟨⟨by omega, by omega⟩, ⟨x + 1, hxl⟩, sub_of (subm_put rfl (subm_put rfl (subm_put rfl (subm_put rfl (subm_put rfl (subm_put rfl (subm_put rfl (subm_put rfl subm_nix)))))))) (subm_put (by rw [cnt_fzbL]; rfl) subm_nix) subm_nix, by show c.list.length - (x + 1) < c.list.length - x; omega⟩
            · have b1 : (i0.op != 12) = true := by simp [hg]
              have b2 : (i0.op != 13) = false := by simp [hg]
              have b3 : (i0.op == 12) = false := by simp [hg]
              rw [b3] at hfd
              simp only [insE, imgD, b1, b2, b3, Bool.not_true, bne_self_eq_false, beq_self_eq_true, Bool.false_eq_true, Bool.true_eq_false, false_implies, true_implies, true_and, and_true, eq_self, go_sem, push_cast, seval, ↓reduceIte, reduceCtorEq, Nat.zero_add, Nat.add_zero, Nat.zero_le, Nat.succ_ne_zero]
              refine ⟨i0.y, im.codes, _, im.libs, im.main, .inl ⟨false, rfl⟩, rfl, by omega, ?_⟩
              rw [hfd]
              simp only [go_sem, push_cast, seval, ↓reduceIte, reduceCtorEq, Nat.zero_add, Nat.add_zero, Nat.zero_le, Nat.succ_ne_zero]
              refine draw_read [21] [] (.take 0 (.rd 1 (.take 2 (.rd 3 (.rd 4 (.rd 5 (.rd 6 (.rd 7 (.rd 8 (.take 9 (.rd 10 (.rd 11 (.rd 12 (.rd 13 (.rd 14 (.rd 15 (.rd 16 (.rd 17 (.rd 18 (.rd 19 (.rd 20 (.rd 21 .done)))))))))))))))))))))) (by kernel_rfl) (by kernel_rfl) ?_
              simp only [insE, b1, b3, Bool.not_true, bne_self_eq_false, beq_self_eq_true, Bool.false_eq_true, Bool.true_eq_false, false_implies, true_implies, true_and, and_true, eq_self, go_sem, push_cast, seval, ↓reduceIte, reduceCtorEq, Nat.zero_add, Nat.add_zero, Nat.zero_le, Nat.succ_ne_zero]
              refine ⟨by omega, by omega, ?_⟩
              rw [Int.toNat_natCast, hcn]
              simp only [codD, List.length_map, hpq, bne_self_eq_false, beq_self_eq_true, Bool.false_eq_true, Bool.true_eq_false, false_implies, true_implies, true_and, and_true, eq_self, go_sem, push_cast, seval, ↓reduceIte, reduceCtorEq, Nat.zero_add, Nat.add_zero, Nat.zero_le, Nat.succ_ne_zero]
              exact ⟨⟨by omega, by omega⟩, ⟨x + 1, hxl⟩, sub_of (subm_put rfl (subm_put rfl (subm_put rfl (subm_put rfl (subm_put rfl (subm_put rfl (subm_put rfl (subm_put rfl subm_nix)))))))) (subm_put (by rw [cnt_fzbL]; rfl) subm_nix) subm_nix, by show c.list.length - (x + 1) < c.list.length - x; omega⟩
          · have b1 : (i0.op != 12) = true := by simp; omega
            have b2 : (i0.op != 13) = true := by simp; omega
            simp only [insE, b1, b2, bne_self_eq_false, beq_self_eq_true, Bool.false_eq_true, Bool.true_eq_false, false_implies, true_implies, true_and, and_true, eq_self, go_sem, push_cast, seval, ↓reduceIte, reduceCtorEq, Nat.zero_add, Nat.add_zero, Nat.zero_le, Nat.succ_ne_zero]
            exact ⟨⟨by omega, by omega⟩, ⟨x + 1, hxl⟩, sub_of (subm_put rfl (subm_put rfl (subm_put rfl (subm_put rfl (subm_put rfl (subm_put rfl (subm_put rfl (subm_put rfl subm_nix)))))))) (subm_put rfl subm_nix) subm_nix, by show c.list.length - (x + 1) < c.list.length - x; omega⟩
        · have hxe : x = c.list.length := by have := of_decide_eq_false h; omega
          exact ⟨⟨by omega, by omega⟩, ⟨j + 1, hlt⟩, sub_of (subm_put rfl (subm_put rfl (subm_put rfl (subm_put rfl (subm_put rfl subm_nix))))) (subm_put rfl subm_nix) subm_nix, by show im.codes.length - (j + 1) < im.codes.length - j; omega⟩
      · have hje : j = im.codes.length := by have := of_decide_eq_false h; omega
        exact ⟨by omega, by omega, _, le_one (.rfl _), hK⟩
