import Derived.Test.YtdfhdhoofofenaaGreatDoorA46
import Derived.Test.YtdfhdhoofofenaaGreatDoorA00
import Derived.Test.YtdfhdhoofofenaaGreatDoorA26
set_option linter.unusedSimpArgs false
set_option linter.unusedVariables false
set_option maxRecDepth 20000
namespace Lx
open Go
open Lg (Tok Tree Trm Inst Cod)
open Go.Proofs (Tryz.prog)
open Go.Proofs.Tryz
def rctermS : Spec := fun ys bx Kr Kp => ∃ t, ys = [.d (trmD t)] ∧ Kr (.d (trmD t)) nix none
theorem rcterm_OK : OK Tryz.prog 63 rctermS := by
 refine fn_OK' qzu (E := EV) (sp := spL []) qzt qzm (OKs.ok trivial) func63 rfl ntmps63 results63 call63 [] none ?_
 rintro ys bx Kr Kp ⟨t, rfl, hK⟩
 refine ⟨[], rfl, trivial, by simp, ?_⟩
 simp only [trmD, go_sem, push_cast, seval]
 exact ⟨_, qzc (.rfl _), hK⟩
def rsameIS : Spec := fun ys bx Kr Kp => ∃ i : Inst, ys = [.d (insE i), .d (insE i)] ∧ i.args.length ≤ 4096 ∧ Kr (.d (.bool true)) nix none
set_option maxHeartbeats 4000000 in
theorem rsameI_OK : OK Tryz.prog 30 rsameIS := by
 refine fn_OK' qzu (E := EV) (sp := spL [(63, rctermS)]) qzt qzm (OKs.ok ⟨rcterm_OK, trivial⟩) func30 rfl ntmps30 results30 call30 [] none ?_
 rintro ys bx Kr Kp ⟨i, rfl, hl, hK⟩
 refine ⟨[], rfl, trivial, by simp, ?_⟩
 simp only [insE, bne_self_eq_false, beq_self_eq_true, Bool.false_eq_true, Bool.true_eq_false, false_implies, true_implies, true_and, and_true, eq_self, go_sem, push_cast, seval]
 refine qzq [2, 3] [] (.take 0 (.take 2 (.rd 1 (.rd 3 (.rd 4 (.take 5 (.rd 6 (.rd 7 (.rd 8 (.rd 9 (.rd 10 (.rd 11 (.take 12 (.rd 13 (.rd 14 (.rd 15 (.rd 16 (.rd 17 (.rd 18 (.take 19 (.rd 20 (.rd 21 (.rd 22 (.rd 23 (.rd 24 (.rd 25 (.take 26 (.rd 27 (.rd 28 (.rd 30 (.rd 31 (.all (.cons 29 (.all (.cons 32 (.rd 33 (.take 34 (.rd 35 (.rd 36 (.rd 38 (.rd 39 (.all (.cons 37 (.all (.cons 40 (.rd 41 (.take 42 (.rd 43 (.rd 44 (.rd 45 (.rd 46 (.rd 47 (.rd 48 (.take 49 (.rd 50 (.rd 51 (.rd 52 (.rd 53 (.rd 54 (.rd 55 (.take 56 (.rd 57 (.rd 58 (.rd 59 (.rd 60 (.rd 61 (.rd 62 (.rd 63 (.rd 64 .done)))))))))))))))))))))))) .nil)) .nil)))))))) .nil)) .nil))))))))))))))))))))))))))))))))) (by kernel_rfl) (by kernel_rfl) ?_
 simp only [insE, List.append_eq, List.cons_append, List.nil_append, List.length_map, bne_self_eq_false, beq_self_eq_true, Bool.false_eq_true, Bool.true_eq_false, false_implies, true_implies, true_and, and_true, eq_self, go_sem, push_cast, seval]
 refine ⟨i.a, rfl, ?_⟩
 simp only [trmD, List.append_eq, List.cons_append, List.nil_append, List.length_map, bne_self_eq_false, beq_self_eq_true, Bool.false_eq_true, Bool.true_eq_false, false_implies, true_implies, true_and, and_true, eq_self, go_sem, push_cast, seval]
 refine ⟨i.b, rfl, ?_⟩
 simp only [trmD, List.append_eq, List.cons_append, List.nil_append, List.length_map, bne_self_eq_false, beq_self_eq_true, Bool.false_eq_true, Bool.true_eq_false, false_implies, true_implies, true_and, and_true, eq_self, go_sem, push_cast, seval]
 refine qzk (T := { k : Nat // k ≤ i.args.length }) (fun k => ⟨90, put 2 (.ep (insE i) 0) (put 3 (.ep (insE i) 0) (put 73 (.d (.int .i64 i.args.length)) (put 74 (.d (.int .i64 k.1)) nix))), nix, nix⟩) (fun k => i.args.length - k.1) ⟨0, by omega⟩
  ?_ ?_
 · exact qzv (qza rfl (qza rfl (qza rfl (qza rfl qzb)))) qzb qzb
 rintro ⟨k, hk⟩
 simp only [go_sem, push_cast, seval]
 refine ⟨fun h => ?_, fun h => ?_⟩
 · have hlt : k < i.args.length := by have := of_decide_eq_true h; omega
   have hkt : (i.args.map trmD)[k]? = some (trmD i.args[k]) := by rw [List.getElem?_map, List.getElem?_eq_getElem hlt]; rfl
   refine qzq [] [] (.take 0 (.take 2 (.take 6 (.take 8 (.rd 1 (.rd 3 (.rd 4 (.rd 7 (.rd 9 (.rd 10 (.all (.cons 5 (.all (.cons 11 .done .nil)) .nil)))))))))))) (by kernel_rfl) (by kernel_rfl) ?_
   simp only [insE, trmD, hkt, List.length_map, Int.toNat_natCast, bne_self_eq_false, beq_self_eq_true, Bool.false_eq_true, Bool.true_eq_false, false_implies, true_implies, true_and, and_true, eq_self, go_sem, push_cast, seval]
   refine ⟨by omega, by omega, by omega, by omega, i.args[k], rfl, ?_⟩
   simp only [trmD, bne_self_eq_false, beq_self_eq_true, Bool.false_eq_true, Bool.true_eq_false, false_implies, true_implies, true_and, and_true, eq_self, go_sem, push_cast, seval]
   exact ⟨⟨by omega, by omega⟩, ⟨k + 1, hlt⟩, qzv (qza rfl (qza rfl (qza rfl (qza rfl qzb)))) qzb qzb, by show i.args.length - (k + 1) < i.args.length - k; omega⟩
 · exact ⟨_, qzc (.rfl _), hK⟩
def rsameCS : Spec := fun ys bx Kr Kp => ∃ c : Cod, ys = [.d (codD c), .d (codD c)] ∧ c.params.length ≤ 4096 ∧ c.list.length ≤ 100000 ∧ (∀ i ∈ c.list, i.args.length ≤ 4096) ∧ Kr (.d (.bool true)) nix none
set_option maxHeartbeats 4000000 in
theorem rsameC_OK : OK Tryz.prog 9 rsameCS := by
 refine fn_OK' qzu (E := EV) (sp := spL [(30, rsameIS)]) qzt qzm (OKs.ok ⟨rsameI_OK, trivial⟩) func9 rfl ntmps9 results9 call9 [] none ?_
 rintro ys bx Kr Kp ⟨c, rfl, hp, hl, ha, hK⟩
 refine ⟨[], rfl, trivial, by simp, ?_⟩
 simp only [codD, List.length_map, bne_self_eq_false, beq_self_eq_true, Bool.false_eq_true, Bool.true_eq_false, false_implies, true_implies, true_and, and_true, eq_self, go_sem, push_cast, seval]
 refine qq6 [2, 3] (T := { k : Nat // k ≤ c.params.length }) (fun k => ⟨67, put 2 (.ep (codD c) 0) (put 3 (.ep (codD c) 0) (put 32 (.d (.int .i64 c.params.length)) (put 33 (.d (.int .i64 k.1)) nix))), nix, nix⟩) (fun k => c.params.length - k.1) ⟨0, by omega⟩
  ?_ ?_
 · simp only [codD, go_sem, push_cast, seval]
   exact qzv (qza rfl (qza rfl (qza rfl (qza rfl qzb)))) qzb qzb
 rintro ⟨k, hk⟩
 simp only [go_sem, push_cast, seval]
 refine ⟨fun h => ?_, fun h => ?_⟩
 · have hlt : k < c.params.length := by have := of_decide_eq_true h; omega
   have hkt : (c.params.map D.st)[k]? = some (.st c.params[k]) := by rw [List.getElem?_map, List.getElem?_eq_getElem hlt]; rfl
   refine qzq [] [] (.take 0 (.take 2 (.take 5 (.take 7 (.rd 1 (.rd 3 (.rd 4 (.rd 6 (.rd 8 (.rd 9 (.rd 10 .done))))))))))) (by kernel_rfl) (by kernel_rfl) ?_
   simp only [codD, hkt, List.length_map, Int.toNat_natCast, bne_self_eq_false, beq_self_eq_true, Bool.false_eq_true, Bool.true_eq_false, false_implies, true_implies, true_and, and_true, eq_self, go_sem, push_cast, seval]
   exact ⟨by omega, by omega, by omega, by omega, ⟨by omega, by omega⟩, ⟨k + 1, hlt⟩, qzv (qza rfl (qza rfl (qza rfl (qza rfl qzb)))) qzb qzb, by show c.params.length - (k + 1) < c.params.length - k; omega⟩
 · simp only [codD, List.length_map, go_sem, push_cast, seval]
   refine qzk (T := { k : Nat // k ≤ c.list.length }) (fun k => ⟨67, put 2 (.ep (codD c) 0) (put 3 (.ep (codD c) 0) (put 50 (.d (.int .i64 c.list.length)) (put 51 (.d (.int .i64 k.1)) nix))), nix, nix⟩) (fun k => c.list.length - k.1) ⟨0, by omega⟩
    (qzv (qza rfl (qza rfl (qza rfl (qza rfl qzb)))) qzb qzb) ?_
   rintro ⟨k, hk⟩
   simp only [go_sem, push_cast, seval]
   refine ⟨fun h => ?_, fun h => ?_⟩
   · have hlt : k < c.list.length := by have := of_decide_eq_true h; omega
     have hkt : (c.list.map insE)[k]? = some (insE c.list[k]) := by rw [List.getElem?_map, List.getElem?_eq_getElem hlt]; rfl
     refine qzq [] [] (.take 0 (.take 2 (.take 5 (.take 7 (.rd 1 (.rd 3 (.rd 4 (.rd 6 (.rd 8 (.rd 9 (.all (.cons 10 (.rd 11 .done) .nil)))))))))))) (by kernel_rfl) (by kernel_rfl) ?_
     simp only [codD, insE, hkt, List.length_map, Int.toNat_natCast, bne_self_eq_false, beq_self_eq_true, Bool.false_eq_true, Bool.true_eq_false, false_implies, true_implies, true_and, and_true, eq_self, go_sem, push_cast, seval]
     refine ⟨by omega, by omega, by omega, by omega, c.list[k], rfl, ha _ (List.getElem_mem hlt), ?_⟩
     simp only [Bool.not_true, bne_self_eq_false, beq_self_eq_true, Bool.false_eq_true, Bool.true_eq_false, false_implies, true_implies, true_and, and_true, eq_self, go_sem, push_cast, seval]
     exact ⟨⟨by omega, by omega⟩, ⟨k + 1, hlt⟩, qzv (qza rfl (qza rfl (qza rfl (qza rfl qzb)))) qzb qzb, by show c.list.length - (k + 1) < c.list.length - k; omega⟩
   · exact ⟨_, qzc (.rfl _), hK⟩
end Lx
namespace Lg
theorem lowerT_fn {f : Tree} (h : isFn f = true) : (qkc f).name = f.text ∧ (qkc f).list = zqm 0 f.kids := by
 unfold qkc
 rw [if_pos (by simpa [isFn] using h)]
 exact ⟨rfl, rfl⟩
theorem fns_fn {n f : Tree} (h : f ∈ fns n) : isFn f = true ∧ f ∈ n.kids := by
 unfold fns at h
 rw [List.mem_filter] at h
 exact ⟨h.2, h.1⟩
def Dist (cs : List Cod) : Prop := cs.Pairwise fun c d => c.name ≠ d.name
theorem zv9 {cl : Bool} : ∀ {fs : List Tree} {cs ds : List Cod}, (∀ f ∈ fs, isFn f = true) → Dist cs → addR cl cs fs = .ok ds → ds = cs ++ fs.map qkc ∧ Dist ds
 | [], cs, ds, _, hd, h => by
   simp only [addR, Except.ok.injEq] at h
   subst h
   exact ⟨by simp, hd⟩
 | f :: fs, cs, ds, hf, hd, h => by
   unfold addR at h
   split at h
   · cases h
   · rename_i hn
     have hd' : Dist (cs ++ [qkc f]) := by
      unfold Dist
      rw [List.pairwise_append]
      refine ⟨hd, List.pairwise_singleton _ _, fun c hc d hd' => ?_⟩
      rw [List.mem_singleton] at hd'
      subst hd'
      rw [(lowerT_fn (hf f (by simp))).1]
      intro e
      exact hn (List.any_eq_true.2 ⟨c, hc, by simp [qxw, e]⟩)
     obtain ⟨h1, h2⟩ := zv9 (fun g hg => hf g (by simp [hg])) hd' h
     exact ⟨by rw [h1]; simp, h2⟩
theorem zjm {cs : List Cod} {libs : Int} {cl : Bool} : ∀ {l : List Inst}, zwb cs libs cl l = .ok () → ∀ i ∈ l, wantI cs libs i = 0
 | [], _, i, hi => by simp at hi
 | j :: l, h, i, hi => by
   unfold zwb at h
   split at h
   · rcases List.mem_cons.1 hi with e | hi
     · subst e; assumption
     · exact zjm h i hi
   · cases h
theorem zkv {cs : List Cod} {libs : Int} : ∀ {r : List Cod} {n : Nat}, checkR cs libs n r = .ok () → ∀ c ∈ r, ∀ i ∈ c.list, wantI cs libs i = 0
 | [], _, _, c, hc => by simp at hc
 | d :: r, n, h, c, hc => by
   unfold checkR at h
   split at h
   · cases h
   · rename_i hw
     rcases List.mem_cons.1 hc with e | hc
     · subst e; exact zjm hw
     · exact zkv h c hc
theorem mainR_ok {cs : List Cod} {libs : Int} {m : Img} (h : mainR cs libs = .ok m) : m.codes = cs ∧ m.libs = libs ∧ libs ≤ m.main ∧ ∃ (k : Nat) (hk : k < cs.length), m.main = k ∧ (cs[k]).name = zqk := by
 unfold mainR at h
 split at h
 · cases h
 · rename_i hn
   split at h
   · split at h
     · simp only [Except.ok.injEq] at h
       subst h
       obtain ⟨k, hk⟩ : ∃ k : Nat, idxF (qxw zqk) cs 0 = (0 + k : Nat) := ⟨(idxF (qxw zqk) cs 0).toNat, by omega⟩
       obtain ⟨h1, h2⟩ := idxF_hit _ _ _ _ hk
       exact ⟨rfl, rfl, by show libs ≤ idxF (qxw zqk) cs 0; omega, k, h1, by show idxF (qxw zqk) cs 0 = (k : Int); omega, by simpa [qxw] using h2⟩
     · cases h
   · cases h
theorem linkR_ok {a b : Tree} {m : Img} (h : linkR a b = .ok m) : m.codes = (fns a).map qkc ++ (fns b).map qkc ∧ m.libs = (fns a).length ∧ Dist m.codes ∧ (∀ c ∈ m.codes, ∀ i ∈ c.list, wantI m.codes m.libs i = 0) ∧
  m.libs ≤ m.main ∧ ∃ (k : Nat) (hk : k < m.codes.length), m.main = k ∧ (m.codes[k]).name = zqk := by
 unfold linkR at h
 split at h
 · cases h
 · rename_i cs hcs
   split at h
   · cases h
   · rename_i ds hds
     split at h
     · cases h
     · rename_i hck
       obtain ⟨h1, h2⟩ := zv9 (fun f hf => (fns_fn hf).1) List.Pairwise.nil hcs
       obtain ⟨h3, h4⟩ := zv9 (fun f hf => (fns_fn hf).1) h2 hds
       have hcl : cs.length = (fns a).length := by rw [h1]; simp
       obtain ⟨e1, e2, e3, k, hk, e4, e5⟩ := mainR_ok h
       have hck' := zkv hck
       refine ⟨by rw [e1, h3, h1]; simp, by rw [e2, hcl], e1 ▸ h4, by rw [e1, e2]; exact hck', by rw [e2]; exact e3, ?_⟩
       subst e1
       exact ⟨k, hk, e4, e5⟩
theorem zki (n : Tree) : (zv7 (kid0 n)).length ≤ size n := by
 unfold zv7
 rw [List.length_map]
 unfold kid0
 have h := Lx.qz4 n
 cases e : n.kids with
 | nil => simp [Tree.kids]
 | cons x xs =>
   have h1 := Lx.qz4 x
   have h2 := Lx.qqj x.kids
   rw [e] at h
   simp only [sizes] at h
   show x.kids.length ≤ size n
   omega
theorem self_args (n : Tree) : (zv7 n).length ≤ size n := by
 unfold zv7
 rw [List.length_map]
 have := Lx.qz4 n
 have := Lx.qqj n.kids
 omega
theorem setI_args (n : Tree) : (setI n (kid0 n)).args.length ≤ size n := by
 unfold setI
 split
 · simp
 split
 · simp
 split
 · simp
 split
 · simp
 split
 · exact zki n
 split
 · simp
 · simp
theorem zvd (n : Tree) : (zwt n).args.length ≤ size n := by
 unfold zwt
 split
 · simp
 split
 · simp
 split
 · simp
 split
 · simp
 split
 · exact zki n
 split
 · exact self_args n
 split
 · simp
 · simp
mutual
theorem stmtC_args (b : Nat) : ∀ (n : Tree) (i : Inst), i ∈ zk4 b n → i.args.length ≤ size n
 | .node k t v p ks, i, hi => by
   unfold zk4 at hi
   split at hi
   · rw [List.mem_singleton] at hi
     subst hi
     exact setI_args _
   · split at hi
     · have := zkw b k t p ks i hi
       unfold size; omega
     · rw [List.mem_singleton] at hi
       subst hi
       exact zvd _
theorem zzp (b : Nat) : ∀ (ks : List Tree) (i : Inst), i ∈ qwx b ks → i.args.length ≤ sizes ks
 | [], i, hi => by simp [qwx] at hi
 | x :: xs, i, hi => by
   unfold qwx at hi
   unfold sizes
   rcases List.mem_append.1 hi with hi | hi
   · have := stmtC_args b x i hi; omega
   · have := zzp _ xs i hi; omega
theorem zkw (b : Nat) (k : Int) (t : Bs) (p : Int) : ∀ (ks : List Tree) (i : Inst), i ∈ qje b k t p ks → i.args.length ≤ sizes ks
 | [], i, hi => by simp [qje] at hi
 | [_], i, hi => by simp [qje] at hi
 | [_, _], i, hi => by simp [qje] at hi
 | x :: y :: z :: r, i, hi => by
   unfold qje at hi
   simp only [sizes]
   rcases List.mem_cons.1 hi with hi | hi
   · subst hi; exact Nat.zero_le _
   · rcases List.mem_append.1 hi with hi | hi
     · have := qvn _ z i hi; omega
     · have := elseC_args _ b k p r i hi; omega
theorem elseC_args (j b : Nat) (k p : Int) : ∀ (ks : List Tree) (i : Inst), i ∈ zvz j b k p ks → i.args.length ≤ sizes ks
 | [], i, hi => by
   simp only [zvz, List.mem_singleton] at hi
   subst hi; exact Nat.zero_le _
 | w :: r, i, hi => by
   unfold zvz at hi
   simp only [sizes]
   split at hi
   · rcases List.mem_cons.1 hi with hi | hi
     · subst hi; exact Nat.zero_le _
     · have := qvn _ w i hi; omega
   · simp only [List.mem_singleton] at hi
     subst hi; exact Nat.zero_le _
theorem qvn (b : Nat) : ∀ (n : Tree) (i : Inst), i ∈ qjx b n → i.args.length ≤ size n
 | .node k t v p ks, i, hi => by
   unfold qjx at hi
   have := zzp b ks i hi
   unfold size; omega
end
theorem qws : ∀ (ks : List Tree) (b : Nat) (i : Inst), i ∈ zqm b ks → i.args.length ≤ sizes ks
 | [], b, i, hi => by simp [zqm] at hi
 | x :: xs, b, i, hi => by
   unfold zqm at hi
   unfold sizes
   split at hi
   · rcases List.mem_append.1 hi with hi | hi
     · have := qvn b x i hi; omega
     · rcases List.mem_cons.1 hi with hi | hi
       · subst hi; exact Nat.zero_le _
       · have := qws xs _ i hi; omega
   · have := qws xs _ i hi; omega
theorem lowerT_args (n : Tree) : ∀ i ∈ (qkc n).list, i.args.length ≤ size n := by
 intro i hi
 unfold qkc at hi
 split at hi
 · have := qws n.kids 0 i hi
   have := Lx.qz4 n
   omega
 · cases hi
theorem lowerT_params (n : Tree) : (qkc n).params.length ≤ size n := by
 unfold qkc
 split
 · show ((n.kids.filter isPar).map Tree.text).length ≤ size n
   rw [List.length_map]
   have := List.length_filter_le isPar n.kids
   have := Lx.qz4 n
   have := Lx.qqj n.kids
   omega
 · exact Nat.zero_le _
end Lg
