import Derived.Test.YtdfhdhoofofenaaGreatDoorA44
import Derived.Test.YtdfhdhoofofenaaGreatDoorA28
set_option linter.unusedSimpArgs false
set_option linter.unusedVariables false
set_option maxRecDepth 20000
namespace Lx
open Go
open Lg (Tok Tree Trm Inst Cod)
open Go.Proofs (Tryz.prog)
open Go.Proofs.Tryz
def rblkR (ow : Option Nat) (L : List Inst) (Kr : LV → Bx → Ar1 → Prop) : Prop := match ow with
 | none => Kr (.d (.sl 11 (L.map insD) false)) nix none
 | some _ => Kr (.os 0 11 L.length) nix (some (11, 100, L.map insD))
def bg (r : Nat) (ks : List Tree) : Prop := ∀ x xs, ks = x :: xs → ((x.kind = 15 ∨ x.kind = 16) ↔ r = 80)
def rblkS (ow : Option Nat) (r N : Nat) : Spec := fun ys bx Kr Kp => ∃ (n : Tree) (b : Nat), ys = [.d (qzl n), .d (.int .i64 b)] ∧ (Lg.Fm n ∧ n.kind = 9) ∧ (Lg.size n ≤ N ∧ N ≤ 4097) ∧ b + 2 * Lg.size n ≤ 100000 ∧ (bg r n.kids ∧ (ow ≠ none → n.kids ≠ [])) ∧ rblkR ow (Lg.qwx b n.kids) Kr
def rblkD (N : Nat) : Spec := fun ys bx Kr Kp => ∃ (n : Tree) (b : Nat), ys = [.d (qzl n), .d (.int .i64 b)] ∧ (Lg.Fm n ∧ n.kind = 9) ∧ (Lg.size n ≤ N ∧ N ≤ 4097) ∧ b + 2 * Lg.size n ≤ 100000 ∧ Kr (.d (.sl 11 ((Lg.qwx b n.kids).map insD) false)) nix none
@[push_cast] theorem insD_el (i : Inst) : (insD i).el 11 = true := by
  unfold insD
  rcases i.args with _ | ⟨x, l⟩ <;> rfl
theorem owLV_ne {r sz : Nat} {xs : List D} (h : xs ≠ []) : owLV r sz xs = .os r sz xs.length := by
 cases xs with
 | nil => exact absurd rfl h
 | cons x xs => rfl
theorem zjt {n : Tree} {b : Nat} (h : n.kind ≠ 15 ∧ n.kind ≠ 16) : Lg.zk4 b n = [Lg.oneI n] := by
 cases n with
 | node k t v p ks =>
   unfold Lg.zk4
   simp only [Tree.kind] at h
   by_cases h10 : k = 10
   · rw [if_pos h10]
     exact congrArg (fun x => [x]) (show Lg.setI _ _ = Lg.oneI _ from (if_pos h10).symm)
   · rw [if_neg h10, if_neg (by omega)]
     exact congrArg (fun x => [x]) (show Lg.zwt _ = Lg.oneI _ from (if_neg h10).symm)
theorem zwf {n : Tree} {b : Nat} (h : n.kind = 15 ∨ n.kind = 16) : Lg.zk4 b n = Lg.qje b n.kind n.text n.pos n.kids := by
 cases n with
 | node k t v p ks =>
   unfold Lg.zk4
   simp only [Tree.kind] at h ⊢
   rw [if_neg (by omega), if_pos h]; rfl
theorem zwe {n : Tree} {b : Nat} (h : Lg.Fm n) : Lg.zk4 b n ≠ [] := by
 by_cases hb : n.kind = 15 ∨ n.kind = 16
 · rw [zwf hb]
   have hL := h.loc
   rcases hb with hb | hb
   · obtain ⟨x, y, u, v, e, _⟩ := hL.2.2.2.2.1 hb
     rw [e]; simp [Lg.qje]
   · obtain ⟨x, y, u, e, _⟩ := hL.2.2.2.2.2 hb
     rw [e]; simp [Lg.qje]
 · rw [zjt (by omega)]; simp
theorem zzq : ∀ {ks : List Tree} {i : Nat} (h : i < ks.length), Lg.sizes (ks.take i) + Lg.size ks[i] ≤ Lg.sizes ks
 | x :: ks, 0, _ => by simp [Lg.sizes]
 | x :: ks, i + 1, h => by
   have := zzq (ks := ks) (i := i) (by simpa using h)
   simp only [List.take_succ_cons, List.getElem_cons_succ, Lg.sizes] at this ⊢
   omega
def brT (s : Tree) (R : List Tree) : Prop := (R = [] ∧ s.kind = 16) ∨ (∃ y, R = [y] ∧ y.kind = 9 ∧ s.kind = 15)
theorem qvv {α : Type} (r : Nat) (v : α) (m : Nat → Option α) : put r v m r = some v := by simp [put]
theorem dint {a b : Int} (h : a = b) : some (LV.d (.int .i64 a)) = some (LV.d (.int .i64 b)) := by rw [h]
set_option maxHeartbeats 16000000 in
theorem zxr (ow : Option Nat) (r N : Nat) (ho : ow = none ∨ ow = some r) (hr : r = 46 ∨ r = 80) (ih : OK Tryz.prog 62 (rblkD N)) : OK Tryz.prog 62 (rblkS ow r (N + 1)) := by
 refine fn_OK' qzu (E := EV) (sp := spL [(81, rofS), (80, zva), (62, (rblkD N))]) qzt qzm (OKs.ok ⟨zjz, ⟨zjy, ⟨ih, trivial⟩⟩⟩) func62 rfl ntmps62 results62 call62 [] ow ?_
 rintro ys bx Kr Kp ⟨n, b, rfl, hF, ⟨hsz, hN⟩, hb, ⟨hbg, hne⟩, hK⟩
 refine ⟨[], rfl, trivial, by simp, ?_⟩
 have hse := qz4 n
 have hkl := qqj n.kids
 have hFl := hF.1.loc.2.1 hF.2
 simp only [go_sem, push_cast, seval]
 refine qq6 [2] (T := { q : List Inst × Nat // q.2 ≤ n.kids.length ∧ q.1 = Lg.qwx b (n.kids.take q.2) }) (fun q => ⟨136, put 1 (.d (.int .i64 b)) (put 2 (.ep (qzl n) 0) (put 5 (owLV r 11 (q.1.1.map insD)) (put 6 (.d (.int .i64 q.1.2)) nix))), nix, owAr r 11 100 (q.1.1.map insD) nix⟩) (fun q => n.kids.length - q.1.2) ⟨([], 0), by simp, by simp [Lg.qwx]⟩
  ?_ ?_
 · simp only [qzj, go_sem, push_cast, seval]
   exact qzv (qza rfl (qza rfl (qza rfl (qza rfl qzb)))) qzb qzb
 rintro ⟨⟨X, i⟩, g1, g2⟩
 have hi : i ≤ n.kids.length := g1
 have hX : X = Lg.qwx b (n.kids.take i) := g2
 dsimp only
 clear g1 g2
 have hXl : X.length ≤ 2 * Lg.sizes n.kids := by have := zzo n.kids i b; have := Lg.zqr b n.kids; rw [hX]; omega
 obtain ⟨X₀, hX0⟩ : ∃ X₀, X₀ = X := ⟨_, rfl⟩
 have hnx : ∀ h : i < n.kids.length, Lg.qwx b (n.kids.take (i + 1)) = X₀ ++ Lg.zk4 (b + X₀.length) n.kids[i] := fun h => by rw [qvc h, hX0, hX]
 have hfst : X₀ = [] → ∀ h : i < n.kids.length, ((n.kids[i].kind = 15 ∨ n.kids[i].kind = 16) ↔ r = 80) := fun e h => by
  have hi0 : i = 0 := by
   cases i with
   | zero => rfl
   | succ k =>
     have hk : k < n.kids.length := by omega
     rw [hX0, hX, qvc hk] at e
     exact absurd (List.append_eq_nil_iff.1 e).2 (zwe (hF.1.kids _ (List.getElem_mem hk)))
  subst hi0
  exact hbg n.kids[0] n.kids.tail (by rw [List.getElem_zero]; exact (List.cons_head_tail _).symm)
 have hr7 : (r = 7) = False := eq_false (by omega)
 have hr9 : (r = 9) = False := eq_false (by omega)
 have hr10 : (r = 10) = False := eq_false (by omega)
 have hr11 : (r = 11) = False := eq_false (by omega)
 rcases X with _ | ⟨z, X⟩
 all_goals
  simp only [List.length_cons, List.length_nil] at hXl
  simp only [List.map_nil, List.map_cons, List.length_map, bne_self_eq_false, beq_self_eq_true, Bool.false_eq_true, Bool.true_eq_false, false_implies, true_implies, true_and, and_true, eq_self, go_sem, push_cast, seval]
  refine ⟨fun h => ?_, fun h => ?_⟩
  · have hlt : i < n.kids.length := by have := of_decide_eq_true h; omega
    refine ⟨by omega, by omega, ?_⟩
    rw [Int.toNat_natCast, qqi hlt]
    have hFk := hF.1.kids _ (List.getElem_mem hlt)
    have hkk := hFl _ (List.getElem_mem hlt)
    have hnx := hnx hlt
    have hsk := qjh hlt
    have hfst := fun e => hfst e hlt
    have hX2 : X₀.length + 2 * Lg.size n.kids[i] ≤ 2 * Lg.sizes n.kids := by
     have h1 := zzq hlt
     have h2 := Lg.zqr b (n.kids.take i)
     rw [← hX] at h2
     rw [hX0]
     omega
    by_cases hbr : n.kids[i].kind = 15 ∨ n.kids[i].kind = 16
    · generalize n.kids[i] = s at hFk hkk hnx hsk hfst hbr hX2 ⊢
      have h80 : X₀ = [] → r = 80 := fun e => (hfst e).1 hbr
      have hLs := hFk.loc
      obtain ⟨a, c, x, R, hek, h9x, hRk⟩ : ∃ a c x R, s.kids = a :: c :: x :: R ∧ x.kind = 9 ∧ brT s R := by
       rcases hbr with h | h
       · obtain ⟨a, c, x, y, e, h9, hy⟩ := hLs.2.2.2.2.1 h
         exact ⟨a, c, x, [y], e, h9, .inr ⟨y, rfl, hy, h⟩⟩
       · obtain ⟨a, c, x, e, h9⟩ := hLs.2.2.2.2.2 h
         exact ⟨a, c, x, [], e, h9, .inl ⟨rfl, h⟩⟩
      have h0 : (qzh s.kids)[0]? = some (qzl a) := by rw [hek]; simp [qzh]
      have h1 : (qzh s.kids)[1]? = some (qzl c) := by rw [hek]; simp [qzh]
      have h2 : (qzh s.kids)[2]? = some (qzl x) := by rw [hek]; simp [qzh]
      have hl3 : 3 ≤ s.kids.length := by rw [hek]; simp
      have l0 : (0 : Int) < s.kids.length := by omega
      have l1 : (1 : Int) < s.kids.length := by omega
      have l2 : (2 : Int) < s.kids.length := by omega
      have hFx := hFk.kids x (by rw [hek]; simp)
      have hss : Lg.size s = 1 + (Lg.size a + (Lg.size c + (Lg.size x + Lg.sizes R))) := by rw [qz4 s, hek]; rfl
      rw [zwf hbr, hek, Lg.qje, qwg] at hnx
      have hXL := congrArg List.length hX0
      simp only [List.length_cons, List.length_nil] at hXL
      obtain ⟨C, hC⟩ : ∃ C, C = Lg.qwx (b + X₀.length + 1) x.kids := ⟨_, rfl⟩
      have hCl : C.length ≤ 2 * Lg.size x := by have := Lg.zqr (b + X₀.length + 1) x.kids; have := qz4 x; rw [hC]; omega
      rw [← hC] at hnx
      obtain ⟨br, hbe⟩ : ∃ br, br = Lg.brI s.pos s.text (Lg.trm a) (Lg.trm c) ((b + X₀.length + 1 + C.length : Nat) + 1) := ⟨_, rfl⟩
      rw [← hbe] at hnx
      have hbd := congrArg insD hbe
      rw [brI_D] at hbd
      have hbb : (s.kind != 15) = false ∨ (s.kind != 15) = true ∧ (s.kind != 16) = false := by simp; omega
      rcases hbb with b15 | ⟨b15, b16⟩
      all_goals
       first
        | simp only [b15, b16, hr7, h0, h1, h2, Int.add_zero, decide_true, bne_self_eq_false, beq_self_eq_true, Bool.false_eq_true, Bool.true_eq_false, false_implies, true_implies, true_and, and_true, eq_self, go_sem, push_cast, seval]
        | simp only [b15, hr7, h0, h1, h2, Int.add_zero, decide_true, bne_self_eq_false, beq_self_eq_true, Bool.false_eq_true, Bool.true_eq_false, false_implies, true_implies, true_and, and_true, eq_self, go_sem, push_cast, seval]
       refine ⟨⟨by omega, by omega⟩, l0, a, by rw [qzj], ?_⟩
       simp only [trmD, hr7, hr10, h0, h1, h2, bne_self_eq_false, beq_self_eq_true, Bool.false_eq_true, Bool.true_eq_false, false_implies, true_implies, true_and, and_true, eq_self, go_sem, push_cast, seval]
       refine ⟨l1, c, by rw [qzj], ?_⟩
       simp only [trmD, hr7, hr10, hr11, h0, h1, h2, bne_self_eq_false, beq_self_eq_true, Bool.false_eq_true, Bool.true_eq_false, false_implies, true_implies, true_and, and_true, eq_self, go_sem, push_cast, seval]
       refine ⟨l2, ⟨by omega, by omega⟩, x, b + X₀.length + 1, ?_, ⟨hFx, h9x⟩, ⟨by omega, by omega⟩, by omega, ?_⟩
       · rw [qzj]
         refine congrArg (fun v => [LV.d (qzl x), LV.d (.int .i64 v)]) ?_
         omega
       rw [← hC]
       simp only [trmD, hr7, hr10, hr11, List.length_map, bne_self_eq_false, beq_self_eq_true, Bool.false_eq_true, Bool.true_eq_false, false_implies, true_implies, true_and, and_true, eq_self, go_sem, push_cast, seval]
       repeat' apply And.intro
       all_goals first
        | omega
        | skip
       refine qq6 [7] (T := { k : Nat // k ≤ C.length }) (fun k => ⟨136, put 1 (.d (.int .i64 b)) (put 2 (.ep (qzl n) 0) (put 5 (.os r 11 (X₀.length + 1 + k.1)) (put 6 (.d (.int .i64 i)) (put 7 (.ep (qzl s) 0) (put 8 (.d (.int .i64 (b + X₀.length : Nat))) (put 12 (.d (.sl 11 (C.map insD) false)) (put 13 (.d (.int .i64 (b + X₀.length + 1 + C.length : Nat))) (put 14 (.d (.int .i64 k.1)) nix)))))))), nix, put r (11, 100, (X₀ ++ br :: C.take k.1).map insD) nix⟩) (fun k => C.length - k.1) ⟨0, by omega⟩ ?_ ?_
       · simp only [qzj, go_sem, push_cast, seval]
         first
          | (have hq : X₀ = [] := hX0
             obtain rfl : r = 80 := h80 hq
             exact qzv (qza rfl (qza rfl (qza (by rw [hX0]; rfl) (qza rfl (qza rfl (qza (dint (by omega)) (qza rfl (qza (dint (by omega)) (qza rfl qzb))))))))) qzb (qza (by rw [hX0]; simp [put, hbd, hXL]; done) qzb))
          | exact qzv (qza rfl (qza rfl (qza (by rw [hX0]; rfl) (qza rfl (qza rfl (qza (dint (by omega)) (qza rfl (qza (dint (by omega)) (qza rfl qzb))))))))) qzb (qza (by rw [hX0]; simp [put, hbd, hXL]; done) qzb)
       rintro ⟨k, hk⟩
       have hkm : (List.map insD (X₀ ++ br :: C.take k)).length = X₀.length + 1 + k := by simp only [List.length_map, List.length_append, List.length_cons, List.length_take]; omega
       have hkn : ∀ h : k < C.length, List.map insD (X₀ ++ br :: C.take k) ++ [insD C[k]] = List.map insD (X₀ ++ br :: C.take (k + 1)) := fun h => by
        have e : X₀ ++ br :: C.take (k + 1) = (X₀ ++ br :: C.take k) ++ [C[k]] := by rw [List.take_succ_eq_append_getElem h, List.append_assoc]; rfl
        rw [e, List.map_append, List.map_append, List.map_append]; rfl
       simp only [List.length_map, go_sem, push_cast, seval]
       refine ⟨fun h => ?_, fun h => ?_⟩
       · have hkl : k < C.length := by have := of_decide_eq_true h; omega
         have hkn := hkn hkl
         refine ⟨by omega, by omega, ?_⟩
         rw [Int.toNat_natCast, List.getElem?_map, List.getElem?_eq_getElem hkl, Option.map_some]
         simp only [insD, hkm, hr7, bne_self_eq_false, beq_self_eq_true, Bool.false_eq_true, Bool.true_eq_false, false_implies, true_implies, true_and, and_true, eq_self, go_sem, push_cast, seval]
         exact ⟨by omega, by omega, ⟨by omega, by omega⟩, ⟨k + 1, hkl⟩, qzv (qza rfl (qza rfl (qza rfl (qza rfl (qza rfl (qza rfl (qza rfl (qza rfl (qza rfl qzb))))))))) qzb (qza (by rw [qvv, ← hkn]; rfl) qzb), by show C.length - (k + 1) < C.length - k; omega⟩
       · have hke : k = C.length := by have := of_decide_eq_false h; omega
         subst hke
         rw [List.take_length] at hkm ⊢
         clear hkn
         unfold brT at hRk
         rcases hRk with ⟨rfl, hk6⟩ | ⟨y, rfl, h9y, hk5⟩
         · have bw : (s.kind == 16) = true := by simp; omega
           rw [show Lg.zvz (b + X₀.length + 1 + C.length) (b + X₀.length) s.kind s.pos [] = [Lg.jmI s.pos (b + X₀.length : Nat)] from rfl] at hnx
           simp only [bw, hkm, bne_self_eq_false, beq_self_eq_true, Bool.false_eq_true, Bool.true_eq_false, false_implies, true_implies, true_and, and_true, eq_self, go_sem, push_cast, seval]
           refine ⟨by simp only [List.length_append, List.length_cons]; omega, by omega, by omega, ⟨by omega, by omega⟩, ⟨(_, i + 1), hlt, hnx.symm⟩, qzv (qza rfl (qza rfl (qza ?_ (qza rfl qzb)))) qzb (qz5 (fun _ => ?_) qzb), by show n.kids.length - (i + 1) < n.kids.length - i; omega⟩
           · rw [owLV_ne (by simp)]
             refine congrArg (fun m => some (LV.os r 11 m)) ?_
             simp only [List.length_map, List.length_append, List.length_cons, List.length_nil]; omega
           · rw [qvv]; simp [jmI_D]
         · have bw : (s.kind == 16) = false := by simp; omega
           have h3 : (qzh s.kids)[3]? = some (qzl y) := by rw [hek]; simp [qzh]
           have l3 : (3 : Int) < s.kids.length := by rw [hek]; simp
           have hFy := hFk.kids y (by rw [hek]; simp)
           have hys : Lg.size s = 1 + (Lg.size a + (Lg.size c + (Lg.size x + (Lg.size y + 0)))) := by rw [qz4 s, hek]; rfl
           obtain ⟨E, hE⟩ : ∃ E, E = Lg.qwx (b + X₀.length + 1 + C.length + 1) y.kids := ⟨_, rfl⟩
           have hEl : E.length ≤ 2 * Lg.size y := by have := Lg.zqr (b + X₀.length + 1 + C.length + 1) y.kids; have := qz4 y; rw [hE]; omega
           rw [Lg.zvz, if_pos hk5, qwg, ← hE] at hnx
           obtain ⟨jm, hje⟩ : ∃ jm, jm = Lg.jmI s.pos ((b + X₀.length + 1 + C.length + 1 : Nat) + E.length) := ⟨_, rfl⟩
           rw [← hje] at hnx
           have hjd := congrArg insD hje
           rw [jmI_D] at hjd
           simp only [bw, hkm, h3, bne_self_eq_false, beq_self_eq_true, Bool.false_eq_true, Bool.true_eq_false, false_implies, true_implies, true_and, and_true, eq_self, go_sem, push_cast, seval]
           refine ⟨l3, ⟨by omega, by omega⟩, y, b + X₀.length + 1 + C.length + 1, ?_, ⟨hFy, h9y⟩, ⟨by omega, by omega⟩, by omega, ?_⟩
           · rw [qzj]
             refine congrArg (fun v => [LV.d (qzl y), LV.d (.int .i64 v)]) ?_
             omega
           rw [← hE]
           simp only [hkm, List.length_map, bne_self_eq_false, beq_self_eq_true, Bool.false_eq_true, Bool.true_eq_false, false_implies, true_implies, true_and, and_true, eq_self, go_sem, push_cast, seval]
           refine ⟨⟨by omega, by omega⟩, ⟨by omega, by omega⟩, by omega, by omega, ?_⟩
           refine qzk (T := { k : Nat // k ≤ E.length }) (fun k => ⟨136, put 1 (.d (.int .i64 b)) (put 2 (.ep (qzl n) 0) (put 5 (.os r 11 (X₀.length + 1 + C.length + 1 + k.1)) (put 6 (.d (.int .i64 i)) (put 15 (.d (.sl 11 (E.map insD) false)) (put 16 (.d (.int .i64 k.1)) nix))))), nix, put r (11, 100, (X₀ ++ br :: (C ++ jm :: E.take k.1)).map insD) nix⟩) (fun k => E.length - k.1) ⟨0, by omega⟩
            (qzv (qza rfl (qza rfl (qza rfl (qza rfl (qza rfl (qza rfl qzb)))))) qzb (qza (by rw [qvv]; simp [hjd]) qzb)) ?_
           rintro ⟨k, hk⟩
           have hkm : (List.map insD (X₀ ++ br :: (C ++ jm :: E.take k))).length = X₀.length + 1 + C.length + 1 + k := by simp only [List.length_map, List.length_append, List.length_cons, List.length_take]; omega
           simp only [List.length_map, go_sem, push_cast, seval]
           refine ⟨fun h => ?_, fun h => ?_⟩
           · have hkl : k < E.length := by have := of_decide_eq_true h; omega
             have hkn : List.map insD (X₀ ++ br :: (C ++ jm :: E.take k)) ++ [insD E[k]] = List.map insD (X₀ ++ br :: (C ++ jm :: E.take (k + 1))) := by
              have e : X₀ ++ br :: (C ++ jm :: E.take (k + 1)) = (X₀ ++ br :: (C ++ jm :: E.take k)) ++ [E[k]] := by rw [List.take_succ_eq_append_getElem hkl]; simp
              rw [e, List.map_append, List.map_append, List.map_append]; rfl
             refine ⟨by omega, by omega, ?_⟩
             rw [Int.toNat_natCast, List.getElem?_map, List.getElem?_eq_getElem hkl, Option.map_some]
             simp only [insD, hkm, hr7, bne_self_eq_false, beq_self_eq_true, Bool.false_eq_true, Bool.true_eq_false, false_implies, true_implies, true_and, and_true, eq_self, go_sem, push_cast, seval]
             exact ⟨by omega, by omega, ⟨by omega, by omega⟩, ⟨k + 1, hkl⟩, qzv (qza rfl (qza rfl (qza rfl (qza rfl (qza rfl (qza rfl qzb)))))) qzb (qza (by rw [qvv, ← hkn]; rfl) qzb), by show E.length - (k + 1) < E.length - k; omega⟩
           · have hke : k = E.length := by have := of_decide_eq_false h; omega
             subst hke
             rw [List.take_length]
             refine ⟨⟨by omega, by omega⟩, ⟨(_, i + 1), hlt, hnx.symm⟩, qzv (qza rfl (qza rfl (qza ?_ (qza rfl qzb)))) qzb (qz5 (fun _ => qvv _ _ _) qzb), by show n.kids.length - (i + 1) < n.kids.length - i; omega⟩
             rw [owLV_ne (by simp)]
             refine congrArg (fun m => some (LV.os r 11 m)) ?_
             simp only [List.length_map, List.length_append, List.length_cons, List.length_nil]; omega
    · have b15 : (n.kids[i].kind != 15) = true := by simp; omega
      have b16 : (n.kids[i].kind != 16) = true := by simp; omega
      rw [zjt (by omega)] at hnx
      simp only [b15, b16, hr7, hr9, Int.add_zero, bne_self_eq_false, beq_self_eq_true, Bool.false_eq_true, Bool.true_eq_false, false_implies, true_implies, true_and, and_true, eq_self, go_sem, push_cast, seval]
      refine ⟨⟨by omega, by omega⟩, n.kids[i], by rw [qzj], hFk, ⟨by omega, by omega, by omega, by omega⟩, by omega, ?_⟩
      simp only [insD, hr7, hr9, bne_self_eq_false, beq_self_eq_true, Bool.false_eq_true, Bool.true_eq_false, false_implies, true_implies, true_and, and_true, eq_self, go_sem, push_cast, seval]
      have h46 : X₀ = [] → r = 46 := fun e => hr.elim id fun h => absurd ((hfst e).2 h) hbr
      subst hX0
      repeat' apply And.intro
      all_goals first
       | omega
       | (obtain rfl : r = 46 := h46 rfl; exact ⟨⟨(_, i + 1), hlt, hnx.symm⟩, qzv (qza rfl (qza rfl (qza (by simp [put, owLV]; done) (qza rfl qzb)))) qzb (qz5 (fun _ => by simp [put, insD]; done) qzb), by show n.kids.length - (i + 1) < n.kids.length - i; omega⟩)
       | exact ⟨⟨(_, i + 1), hlt, hnx.symm⟩, qzv (qza rfl (qza rfl (qza (by simp [put, owLV]; done) (qza rfl qzb)))) qzb (qz5 (fun _ => by simp [put, insD]; done) qzb), by show n.kids.length - (i + 1) < n.kids.length - i; omega⟩
  · have hie : i = n.kids.length := by have := of_decide_eq_false h; omega
    rw [hie, List.take_length] at hX
    rw [← hX] at hK
    unfold rblkR at hK
    rcases ho with rfl | rfl
    · simp only [go_sem, push_cast, seval]
      first
       | exact ⟨_, qzc (.nil _ _), hK⟩
       | exact ⟨_, qzc (.rfl _), hK⟩
    · first
       | (cases hq : n.kids with
          | nil => exact absurd hq (hne (by simp))
          | cons x xs =>
            rw [hq, Lg.qwx] at hX
            have h0 := List.append_eq_nil_iff.1 hX.symm
            exact absurd h0.1 (zwe (hF.1.kids x (by rw [hq]; simp))))
       | (simp only [go_sem, push_cast, seval]
          exact hK)
theorem bg_80 {ks : List Tree} (hx : ∃ x xs, ks = x :: xs ∧ (x.kind = 15 ∨ x.kind = 16)) : bg 80 ks := fun x xs e => by
 obtain ⟨y, ys, e', h⟩ := hx
 rw [e] at e'
 cases e'
 exact ⟨fun _ => rfl, fun _ => h⟩
theorem bg_46 {ks : List Tree} (hx : ¬ ∃ x xs, ks = x :: xs ∧ (x.kind = 15 ∨ x.kind = 16)) : bg 46 ks := fun x xs e => ⟨fun h => absurd ⟨x, xs, e, h⟩ hx, fun h => absurd h (by decide)⟩
theorem rblkD_step (N : Nat) (ih : OK Tryz.prog 62 (rblkD N)) : OK Tryz.prog 62 (rblkD (N + 1)) where
 enters := call62
 calls := fun ys bx Kr Kp ⟨n, b, hy, hF, hs, hb, hK⟩ => by
  by_cases hx : ∃ x xs, n.kids = x :: xs ∧ (x.kind = 15 ∨ x.kind = 16)
  · exact (zxr none 80 N (.inl rfl) (.inr rfl) ih).calls ys bx Kr Kp ⟨n, b, hy, hF, hs, hb, ⟨bg_80 hx, fun h => absurd rfl h⟩, hK⟩
  · exact (zxr none 46 N (.inl rfl) (.inl rfl) ih).calls ys bx Kr Kp ⟨n, b, hy, hF, hs, hb, ⟨bg_46 hx, fun h => absurd rfl h⟩, hK⟩
theorem qw9 : ∀ N : Nat, OK Tryz.prog 62 (rblkD N)
 | 0 => { enters := call62, calls := fun ys bx Kr Kp ⟨n, _, _, _, h, _⟩ => by have := qz4 n; omega }
 | N + 1 => rblkD_step N (qw9 N)
def rblk0 : Spec := fun ys bx Kr Kp => ∃ (n : Tree) (b : Nat), ys = [.d (qzl n), .d (.int .i64 b)] ∧ n.kids = [] ∧ Kr (.d (.imm (.slice none 0 0))) nix none
theorem rblk0_OK : OK Tryz.prog 62 rblk0 := by
 refine fn_OK' qzu (E := EV) (sp := spL [(81, rofS), (80, zva), (62, (rblkD 4096))]) qzt qzm (OKs.ok ⟨zjz, ⟨zjy, ⟨(qw9 4096), trivial⟩⟩⟩) func62 rfl ntmps62 results62 call62 [] none ?_
 rintro ys bx Kr Kp ⟨n, b, rfl, hn, hK⟩
 refine ⟨[], rfl, trivial, by simp, ?_⟩
 have hl : n.kids.length = 0 := by rw [hn]; rfl
 simp only [go_sem, push_cast, seval]
 refine qq6 [2] (T := Unit) (fun _ => ⟨136, put 1 (.d (.int .i64 b)) (put 2 (.ep (qzl n) 0) (put 5 (.d (.imm (.slice none 0 0))) (put 6 (.d (.int .i64 0)) nix))), nix, nix⟩) (fun _ => 0) () ?_ ?_
 · simp only [qzj, go_sem, push_cast, seval]
   exact qzv (qza rfl (qza rfl (qza rfl (qza rfl qzb)))) qzb qzb
 rintro ⟨⟩
 simp only [hl, go_sem, push_cast, seval]
 exact ⟨fun h => absurd h (by decide), fun _ => ⟨_, qzc (.rfl _), hK⟩⟩
def rblkO : Spec := fun ys bx Kr Kp => ∃ (n : Tree) (b : Nat), ys = [.d (qzl n), .d (.int .i64 b)] ∧ (Lg.Fm n ∧ n.kind = 9) ∧ Lg.size n ≤ 4096 ∧ b + 2 * Lg.size n ≤ 100000 ∧ (n.kids = [] → Kr (.d (.imm (.slice none 0 0))) nix none) ∧ (n.kids ≠ [] → rblkR (some 0) (Lg.qwx b n.kids) Kr)
theorem rblkO_OK : OK Tryz.prog 62 rblkO where
 enters := call62
 calls := fun ys bx Kr Kp ⟨n, b, hy, hF, hs, hb, h0, hK⟩ => by
  by_cases hn : n.kids = []
  · exact rblk0_OK.calls ys bx Kr Kp ⟨n, b, hy, hn, h0 hn⟩
  by_cases hx : ∃ x xs, n.kids = x :: xs ∧ (x.kind = 15 ∨ x.kind = 16)
  · exact (zxr (some 80) 80 4096 (.inr rfl) (.inr rfl) (qw9 4096)).calls ys bx Kr Kp ⟨n, b, hy, hF, ⟨by omega, by omega⟩, hb, ⟨bg_80 hx, fun _ => hn⟩, hK hn⟩
  · exact (zxr (some 46) 46 4096 (.inr rfl) (.inl rfl) (qw9 4096)).calls ys bx Kr Kp ⟨n, b, hy, hF, ⟨by omega, by omega⟩, hb, ⟨bg_46 hx, fun _ => hn⟩, hK hn⟩
end Lx
