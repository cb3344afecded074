import Derived.Test.YtdfhdhoofofenaaGreatDoorA26
set_option linter.unusedSimpArgs false
set_option linter.unusedVariables false
set_option maxRecDepth 20000
namespace Lx
open Go
open Lg (Tok Tree Trm Inst Cod)
open Go.Proofs (Tryz.prog)
open Go.Proofs.Tryz
theorem brI_D (p : Int) (t : List UInt8) (a b : Trm) (to : Int) : insD (Lg.brI p t a b to) = .ag [.int .i64 10, .int .i64 p, .st t, .st [], .st a.1, .int .i64 a.2, .st b.1, .int .i64 b.2, .imm (.slice none 0 0), .int .i64 to, .bool false] := rfl
theorem jmI_D (p : Int) (to : Int) : insD (Lg.jmI p to) = .ag [.int .i64 11, .int .i64 p, .st [], .st [], .st [], .int .i64 0, .st [], .int .i64 0, .imm (.slice none 0 0), .int .i64 to, .bool false] := rfl
theorem owAr_snoc (r sz ty : Nat) (xs : List D) (x : D) (a : Ar) : owAr r sz ty (xs ++ [x]) a = put r (sz, ty, xs ++ [x]) a := by cases xs <;> rfl
set_option maxHeartbeats 8000000 in
theorem branch_of {N : Nat} (hblk : OK3 Tryz.prog 51 (zk1 N)) : OK3 Tryz.prog 96 (zv4 N) := by
 refine fn_OK3 qzu (E := EV) (sp := spL [(97, .b ckidS.up), (51, .b (zk1 N)), (52, .b putB)]) qzt qzm (OKs.ok ⟨ckid_OK.up, ⟨hblk, ⟨zwp, trivial⟩⟩⟩) func96 rfl ntmps96 results96 call96 [1000] qk6 ?_
 rintro ys bx ar Kr Kp ⟨L, n, rfl, hsz, hN, hb, har, hl, hK⟩
 obtain ⟨A, hA1, hA2⟩ := ow_A har
 refine ⟨[(1000, lowB L)], A, rfl, ⟨by decide, hb, trivial⟩, hA1, by simp, ?_⟩
 have hA3 := hA2 []
 rw [List.append_nil] at hA3
 rw [hA3]
 clear hA1 hA2 hA3 A har hb
 by_cases h3 : n.kids.length < 3
 · have hI : Lg.qje L.length n.kind n.text n.pos n.kids = [] := by
    rcases hq : n.kids with _ | ⟨x, _ | ⟨y, _ | ⟨z, r⟩⟩⟩
    · rfl
    · rfl
    · rfl
    · rw [hq] at h3; simp only [List.length_cons] at h3; omega
   rw [hI] at hK
   have b3 : decide ((n.kids.length : Int) < 3) = true := decide_eq_true (by omega)
   rw [List.map_nil, List.append_nil] at hK
   rcases L with _ | ⟨x, L⟩
   all_goals
    simp only [lowB, b3, bne_self_eq_false, beq_self_eq_true, Bool.false_eq_true, Bool.true_eq_false, false_implies, true_implies, true_and, and_true, eq_self, go_sem, push_cast, seval]
    exact ⟨_, .nil, hK⟩
 have b3 : decide ((n.kids.length : Int) < 3) = false := decide_eq_false (by omega)
 obtain ⟨x, y, z, r, hk⟩ : ∃ x y z r, n.kids = x :: y :: z :: r := by
  rcases hq : n.kids with _ | ⟨x, _ | ⟨y, _ | ⟨z, r⟩⟩⟩
  · rw [hq] at h3; simp at h3
  · rw [hq] at h3; simp at h3
  · rw [hq] at h3; simp at h3
  · exact ⟨x, y, z, r, rfl⟩
 have e0 : Lg.kidT n 0 = Lg.trm x := by unfold Lg.kidT; rw [hk]; rfl
 have e1 : Lg.kidT n 1 = Lg.trm y := by unfold Lg.kidT; rw [hk]; rfl
 have e2 : (qzh n.kids)[2]? = some (qzl z) := by rw [hk]; simp [qzh]
 have hz : Lg.sizes z.kids ≤ N := by rw [hk] at hsz; have := qz4 z; simp only [Lg.sizes] at hsz; omega
 have hlt : (2 : Int) < n.kids.length := by rw [hk]; simp only [List.length_cons]; omega
 rw [hk, Lg.qje] at hK hl
 obtain ⟨C, hC⟩ : ∃ C, C = Lg.qjx (L.length + 1) z := ⟨_, rfl⟩
 rw [← hC] at hK hl
 obtain ⟨E, hE⟩ : ∃ E, E = Lg.zvz (L.length + 1 + C.length) L.length n.kind n.pos r := ⟨_, rfl⟩
 rw [← hE] at hK hl
 obtain ⟨P, hP⟩ : ∃ P, P = L ++ (Lg.brI n.pos n.text (Lg.trm x) (Lg.trm y) ((L.length + 1 + C.length : Nat) + 1) :: C).map insD := ⟨_, rfl⟩
 have hPl : P.length = L.length + 1 + C.length := by rw [hP]; simp; omega
 have hPE : L ++ (Lg.brI n.pos n.text (Lg.trm x) (Lg.trm y) ((L.length + 1 + C.length : Nat) + 1) :: (C ++ E)).map insD = P ++ E.map insD := by rw [hP]; simp
 rw [hPE] at hK
 have hl1 : P.length + E.length ≤ 100000 := by
  simp only [List.length_map, List.length_cons, List.length_append] at hl
  omega
 have hE1 : 1 ≤ E.length := by
  rw [hE]
  cases r with
  | nil => simp [Lg.zvz]
  | cons w r => unfold Lg.zvz; split <;> simp
 rw [← hPl] at hE
 obtain ⟨b, hb⟩ : ∃ b, b = (L.length : Int) := ⟨_, rfl⟩
 obtain ⟨u, t, ht⟩ : ∃ u t, L ++ [insD (Lg.brI n.pos n.text (Lg.trm x) (Lg.trm y) 0)] = u :: t := by cases L with
  | nil => exact ⟨_, _, rfl⟩
  | cons w L => exact ⟨_, _, rfl⟩
 have htl : t.length = L.length := by have := congrArg List.length ht; simp at this; omega
 obtain ⟨ju, jt, hj⟩ : ∃ ju jt, u :: t ++ C.map insD ++ [insD (Lg.jmI n.pos b)] = ju :: jt := ⟨_, _, rfl⟩
 have hjl : jt.length = P.length := by have := congrArg List.length hj; simp at this; omega
 have hat : (ju :: jt)[L.length]? = some (insD (Lg.brI n.pos n.text (Lg.trm x) (Lg.trm y) 0)) := by rw [← hj, ← ht]; simp
 have hset : (ju :: jt).set L.length (insD (Lg.brI n.pos n.text (Lg.trm x) (Lg.trm y) (P.length + 1))) = P ++ [insD (Lg.jmI n.pos b)] := by rw [← hj, ← ht, hP, show ((L.length + 1 + C.length : Nat) : Int) + 1 = P.length + 1 by omega]; simp; rw [show (L.length : Int) + (C.length + 1) + 1 = (P.length : Int) + 1 by omega]
 have hC' : Lg.qjx (u :: t).length z = C := by rw [hC]; congr 1; simp; omega
 have hsL : (ju :: jt).length = P.length + 1 := by simp; omega
 obtain ⟨Q, hQ⟩ : ∃ Q, Q = L.length := ⟨_, rfl⟩
 have hbL := hb
 rw [← hQ] at hat hset hb
 rw [brI_D] at hat hset
 rw [← hQ] at hE
 have h5 : ((t ++ C.map insD).length : Int) + 1 = P.length := by simp; omega
 have hb0 : 0 ≤ b := by omega
 have hb1 : b < P.length + 1 := by omega
 have hQ1 : Q < P.length + 1 := by omega
 have hbn : b.toNat = Q := by omega
 rcases L with _ | ⟨w, L⟩
 all_goals
  simp only [lowB, b3, bne_self_eq_false, beq_self_eq_true, Bool.false_eq_true, Bool.true_eq_false, false_implies, true_implies, true_and, and_true, eq_self, go_sem, push_cast, seval]
  refine qzq [3] [] (.take 0 (.take 1 (.take 3 (.rd 2 (.rd 4 (.rd 5 (.rd 7 (.all (.cons 6 (.all (.cons 8 (.all (.cons 9 (.all (.cons 10 (.take 11 .done) .nil)) .nil)) .nil)) .nil))))))))) (by kernel_rfl) (by kernel_rfl) ?_
  simp only [go_sem, push_cast, seval]
  refine ⟨n, 0, (by rw [qzj]; rfl), ?_⟩
  simp only [go_sem, push_cast, seval]
  refine ⟨n, 1, (by rw [qzj]; rfl), ?_⟩
  simp only [trmD, e0, e1, go_sem, push_cast, seval]
  refine ⟨_, Lg.brI n.pos n.text (Lg.trm x) (Lg.trm y) 0, rfl, rfl, (fun h => by first | rfl | exact absurd rfl h), (by simp only [List.length_cons, List.length_nil] at hPl ⊢; omega), ?_⟩
  rw [ht, ← hbL]
  simp only [lowB, e2, go_sem, push_cast, seval]
  refine ⟨hlt, ?_⟩
  refine ⟨u :: t, z, by rw [qzj], hz, hN, rfl, (fun h => rfl), (by rw [hC']; simp only [List.length_map, List.length_cons] at hjl hPl htl ⊢; omega), ?_⟩
  rw [hC']
  simp only [lowB, List.cons_append, go_sem, push_cast, seval]
  refine ⟨u :: t ++ C.map insD, Lg.jmI n.pos b, rfl, rfl, (fun h => rfl), ?_, ?_⟩
  · simp only [List.length_map, List.length_cons, List.length_nil, List.length_append] at hjl hPl htl ⊢; omega
  rw [hj]
  simp only [lowB, go_sem, push_cast, seval]
  refine draw_cut (.take 0 (.take 4 (.take 5 (.all (.cons 1 (.take 2 (.all (.cons 3 (.all (.cons 6 (.take 7 (.all (.cons 8 (.all (.cons 9 (.all (.cons 10 (.take 11 (.all (.cons 12 .done .nil))) .nil)) .nil)) .nil))) .nil)) (.cons 6 (.take 7 (.all (.cons 3 (.all (.cons 8 (.all (.cons 9 (.all (.cons 10 (.take 11 (.all (.cons 12 .done .nil))) .nil)) .nil)) .nil)) (.cons 8 (.all (.cons 3 (.all (.cons 9 (.all (.cons 10 (.take 11 (.all (.cons 12 .done .nil))) .nil)) .nil)) (.cons 9 (.all (.cons 3 (.all (.cons 10 (.take 11 (.all (.cons 12 .done .nil))) .nil)) .nil)) .nil))) .nil)))) .nil)))) (.cons 6 (.take 7 (.all (.cons 1 (.take 2 (.all (.cons 3 (.all (.cons 8 (.all (.cons 9 (.all (.cons 10 (.take 11 (.all (.cons 12 .done .nil))) .nil)) .nil)) .nil)) (.cons 8 (.all (.cons 3 (.all (.cons 9 (.all (.cons 10 (.take 11 (.all (.cons 12 .done .nil))) .nil)) .nil)) (.cons 9 (.all (.cons 3 (.all (.cons 10 (.take 11 (.all (.cons 12 .done .nil))) .nil)) .nil)) .nil))) .nil)))) (.cons 8 (.all (.cons 1 (.take 2 (.all (.cons 3 (.all (.cons 9 (.all (.cons 10 (.take 11 (.all (.cons 12 .done .nil))) .nil)) .nil)) (.cons 9 (.all (.cons 3 (.all (.cons 10 (.take 11 (.all (.cons 12 .done .nil))) .nil)) .nil)) .nil)))) (.cons 9 (.all (.cons 1 (.take 2 (.all (.cons 3 (.all (.cons 10 (.take 11 (.all (.cons 12 .done .nil))) .nil)) .nil))) .nil)) .nil))) .nil)))) .nil)))))) ⟨72, put 0 (.bp 1000 0) (put 3 (.ep (qzl n) 0) (put 5 (.d (.int .i64 P.length)) nix)), put 1000 ⟨[.os 66000 11 (P.length + 1)], 114⟩ nix, put 66000 (11, 81, P ++ [insD (Lg.jmI n.pos b)]) nix⟩ (by kernel_rfl) (by kernel_rfl) ?_ ?_
  · simp only [hbn, hjl, hat, hset, h5, hb0, hb1, hQ1, qzj, go_sem, push_cast, seval]
    repeat' apply And.intro
    all_goals exact qzv (qza rfl (qza rfl (qza rfl qzb))) (qza rfl qzb) (qza rfl qzb)
  clear hat hset hP hPE hC hC' ht htl hj hsL e0 e1 e2
  have hK1 : E = [Lg.jmI n.pos b] → Kr (.tup []) (put 1000 ⟨[.os 66000 11 (P.length + 1)], 114⟩ nix) (put 66000 (11, 81, P ++ [insD (Lg.jmI n.pos b)]) nix) := by
   intro e
   rw [e] at hK
   simp only [List.map_cons, List.map_nil, lowB, zj9, owAr_snoc] at hK
   exact hK
  by_cases h15 : n.kind = 15
  · have b15 : (n.kind == 15) = true := by simpa using h15
    rcases r with _ | ⟨v, r⟩
    · have b4 : decide ((3 : Int) < n.kids.length) = false := decide_eq_false (by rw [hk]; simp only [List.length_cons, List.length_nil]; omega)
      simp only [b15, b4, bne_self_eq_false, beq_self_eq_true, Bool.false_eq_true, Bool.true_eq_false, false_implies, true_implies, true_and, and_true, eq_self, go_sem, push_cast, seval]
      exact ⟨_, .nil, hK1 (by rw [hE, hb]; rfl)⟩
    · have h4 : (3 : Int) < n.kids.length := by rw [hk]; simp only [List.length_cons]; omega
      have b4 : decide ((3 : Int) < n.kids.length) = true := decide_eq_true h4
      have e3 : (qzh n.kids)[3]? = some (qzl v) := by rw [hk]; simp [qzh]
      have hv : Lg.sizes v.kids ≤ N := by rw [hk] at hsz; have := qz4 v; simp only [Lg.sizes] at hsz; omega
      simp only [b15, b4, e3, bne_self_eq_false, beq_self_eq_true, Bool.false_eq_true, Bool.true_eq_false, false_implies, true_implies, true_and, and_true, eq_self, go_sem, push_cast, seval]
      refine ⟨h4, ?_⟩
      obtain ⟨C2, hC2⟩ : ∃ C2, C2 = Lg.qjx (P.length + 1) v := ⟨_, rfl⟩
      have hE2 : E = Lg.jmI n.pos ((P.length + 1 : Nat) + C2.length) :: C2 := by rw [hE, Lg.zvz, if_pos h15, hC2]
      have hC2' : Lg.qjx (P ++ [insD (Lg.jmI n.pos b)]).length v = C2 := by rw [hC2]; congr 1; simp
      have hEl : E.length = C2.length + 1 := by rw [hE2]; rfl
      obtain ⟨u', t', ht'⟩ : ∃ u' t', P ++ [insD (Lg.jmI n.pos b)] ++ C2.map insD = u' :: t' := by cases P with
       | nil => exact ⟨_, _, rfl⟩
       | cons w P => exact ⟨_, _, rfl⟩
      have htl' : t'.length = P.length + C2.length := by have := congrArg List.length ht'; simp at this; omega
      obtain ⟨u2, t2, ht2⟩ : ∃ u2 t2, P ++ E.map insD = u2 :: t2 := by rw [hE2]; cases P with
       | nil => exact ⟨_, _, rfl⟩
       | cons w P => exact ⟨_, _, rfl⟩
      have htl2 : t2.length = P.length + C2.length := by have := congrArg List.length ht2; simp at this; omega
      have hat : (u' :: t')[P.length]? = some (insD (Lg.jmI n.pos b)) := by rw [← ht']; simp
      have hset : (u' :: t').set P.length (insD (Lg.jmI n.pos ((P.length : Int) + C2.length + 1))) = u2 :: t2 := by
       rw [← ht', ← ht2, hE2, show ((P.length + 1 : Nat) : Int) + C2.length = P.length + C2.length + 1 by omega]; simp
      rw [jmI_D] at hat hset
      rw [ht2] at hK
      have hp1 : (P.length : Int) < P.length + C2.length + 1 := by omega
      have hp2 : P.length < P.length + C2.length + 1 := by omega
      have hp0 : (0 : Int) ≤ P.length := by omega
      refine ⟨P ++ [insD (Lg.jmI n.pos b)], v, by rw [qzj], hv, hN, (by rw [lowB, zj9]; rfl), (fun _ => rfl), (by rw [hC2']; simp; omega), ?_⟩
      rw [hC2', ht']
      simp only [lowB, go_sem, push_cast, seval]
      refine qz7 (.take 0 (.take 4 (.take 5 (.all (.cons 1 (.take 2 (.all (.cons 3 (.all (.cons 6 (.take 7 (.all (.cons 8 (.all (.cons 9 (.all (.cons 10 (.take 11 (.all (.cons 12 .done .nil))) .nil)) .nil)) .nil))) .nil)) (.cons 6 (.take 7 (.all (.cons 3 (.all (.cons 8 (.all (.cons 9 (.all (.cons 10 (.take 11 (.all (.cons 12 .done .nil))) .nil)) .nil)) .nil)) (.cons 8 (.all (.cons 3 (.all (.cons 9 (.all (.cons 10 (.take 11 (.all (.cons 12 .done .nil))) .nil)) .nil)) (.cons 9 (.all (.cons 3 (.all (.cons 10 (.take 11 (.all (.cons 12 .done .nil))) .nil)) .nil)) .nil))) .nil)))) .nil)))) (.cons 6 (.take 7 (.all (.cons 1 (.take 2 (.all (.cons 3 (.all (.cons 8 (.all (.cons 9 (.all (.cons 10 (.take 11 (.all (.cons 12 .done .nil))) .nil)) .nil)) .nil)) (.cons 8 (.all (.cons 3 (.all (.cons 9 (.all (.cons 10 (.take 11 (.all (.cons 12 .done .nil))) .nil)) .nil)) (.cons 9 (.all (.cons 3 (.all (.cons 10 (.take 11 (.all (.cons 12 .done .nil))) .nil)) .nil)) .nil))) .nil)))) (.cons 8 (.all (.cons 1 (.take 2 (.all (.cons 3 (.all (.cons 9 (.all (.cons 10 (.take 11 (.all (.cons 12 .done .nil))) .nil)) .nil)) (.cons 9 (.all (.cons 3 (.all (.cons 10 (.take 11 (.all (.cons 12 .done .nil))) .nil)) .nil)) .nil)))) (.cons 9 (.all (.cons 1 (.take 2 (.all (.cons 3 (.all (.cons 10 (.take 11 (.all (.cons 12 .done .nil))) .nil)) .nil))) .nil)) .nil))) .nil)))) .nil)))))) (by kernel_rfl) (by kernel_rfl) ?_
      simp only [Int.toNat_natCast, hat, htl', Int.natCast_add, hset, hp0, hp1, hp2, go_sem, push_cast, seval]
      rw [← htl2]
      exact ⟨_, .nil, hK⟩
  · have b15 : (n.kind == 15) = false := by simpa using h15
    have hEn : E = [Lg.jmI n.pos b] := by
     rw [hE, hb]
     cases r with
     | nil => rfl
     | cons v r => rw [Lg.zvz, if_neg h15]
    simp only [b15, bne_self_eq_false, beq_self_eq_true, Bool.false_eq_true, Bool.true_eq_false, false_implies, true_implies, true_and, and_true, eq_self, go_sem, push_cast, seval]
    exact ⟨_, .nil, hK1 hEn⟩
theorem qwj : ∀ (xs ys : List Tree) (b : Nat), Lg.qwx b (xs ++ ys) = Lg.qwx b xs ++ Lg.qwx (b + (Lg.qwx b xs).length) ys
 | [], ys, b => by simp [Lg.qwx]
 | x :: xs, ys, b => by
   rw [List.cons_append, Lg.qwx, qwj xs ys, Lg.qwx, List.append_assoc, List.length_append, Nat.add_assoc]
theorem qvc {ks : List Tree} {i : Nat} (h : i < ks.length) (b : Nat) : Lg.qwx b (ks.take (i + 1)) = Lg.qwx b (ks.take i) ++ Lg.zk4 (b + (Lg.qwx b (ks.take i)).length) ks[i] := by
 rw [List.take_succ_eq_append_getElem h, qwj]
 simp [Lg.qwx]
theorem zzo (ks : List Tree) (i b : Nat) : (Lg.qwx b (ks.take i)).length ≤ (Lg.qwx b ks).length := by
 have := qwj (ks.take i) (ks.drop i) b
 rw [List.take_append_drop] at this
 rw [this, List.length_append]; omega
set_option maxHeartbeats 8000000 in
theorem blk_of {N : Nat} (hst : OK3 Tryz.prog 72 (stmtB N)) : OK3 Tryz.prog 51 (zk1 N) := by
 refine fn_OK3 qzu (E := EV) (sp := spL [(72, .b (stmtB N))]) qzt qzm (OKs.ok ⟨hst, trivial⟩) func51 rfl ntmps51 results51 call51 [1000] qk6 ?_
 rintro ys bx ar Kr Kp ⟨L, n, rfl, hsz, hN, hb, har, hl, hK⟩
 obtain ⟨A, hA1, hA2⟩ := ow_A har
 refine ⟨[(1000, lowB L)], A, rfl, ⟨by decide, hb, trivial⟩, hA1, by simp, ?_⟩
 have hA3 := hA2 []
 rw [List.append_nil] at hA3
 rw [hA3]
 clear hA1 hA2 hA3 A har hb
 rw [qwg] at hK hl
 rw [List.length_map] at hl
 have hkl : n.kids.length ≤ 4096 := by have := qqj n.kids; omega
 simp only [lowB, go_sem, push_cast, seval]
 refine qzk (T := { q : List D × Nat // q.2 ≤ n.kids.length ∧ q.1 = L ++ (Lg.qwx L.length (n.kids.take q.2)).map insD }) (fun q => ⟨17, put 0 (.bp 1000 0) (put 7 (.d (.sl 5 (qzh n.kids) false)) (put 8 (.d (.int .i64 n.kids.length)) (put 9 (.d (.int .i64 q.1.2)) nix))), put 1000 ⟨[owLV 66000 11 q.1.1], 114⟩ nix, owAr 66000 11 81 q.1.1 nix⟩) (fun q => n.kids.length - q.1.2) ⟨(L, 0), by simp, by simp [Lg.qwx]⟩
  (by cases L <;> exact qzv (qza rfl (qza rfl (qza rfl (qza rfl qzb)))) (qza rfl qzb) (qz5 (fun h => by first | rfl | exact absurd rfl h) qzb)) ?_
 rintro ⟨⟨X, i⟩, g1, g2⟩
 have hi : i ≤ n.kids.length := g1
 have hX : X = L ++ (Lg.qwx L.length (n.kids.take i)).map insD := g2
 dsimp only
 clear g1 g2
 have hXl : X.length = L.length + (Lg.qwx L.length (n.kids.take i)).length := by rw [hX]; simp
 have hnx : ∀ h : i < n.kids.length, X ++ (Lg.zk4 X.length n.kids[i]).map insD = L ++ (Lg.qwx L.length (n.kids.take (i + 1))).map insD := fun h => by
  rw [qvc h, List.map_append, ← List.append_assoc, ← hX, ← hXl]
 have hln : ∀ h : i < n.kids.length, X.length + ((Lg.zk4 X.length n.kids[i]).map insD).length ≤ 100000 := fun h => by
  have h1 := congrArg List.length (hnx h)
  have h2 := zzo n.kids (i + 1) L.length
  simp only [List.length_append, List.length_map] at h1 ⊢
  omega
 rcases X with _ | ⟨x, X⟩
 all_goals
  simp only [go_sem, push_cast, seval]
  refine ⟨fun h => ?_, fun h => ?_⟩
  · have hlt : i < n.kids.length := by have := of_decide_eq_true h; omega
    refine ⟨by omega, by omega, ?_⟩
    rw [Int.toNat_natCast, qqi hlt]
    simp only [qzj, go_sem, push_cast, seval]
    refine ⟨_, n.kids[i], rfl, Nat.le_trans (qjh hlt) hsz, hN, rfl, (fun h => by first | rfl | exact absurd rfl h), hln hlt, ?_⟩
    have hn := hnx hlt
    rw [hn]
    rcases hq : L ++ (Lg.qwx L.length (n.kids.take (i + 1))).map insD with _ | ⟨h', t'⟩
    all_goals
     simp only [lowB, go_sem, push_cast, seval]
     exact ⟨⟨by omega, by omega⟩, ⟨(_, i + 1), hlt, hq.symm⟩, qzv (qza rfl (qza rfl (qza rfl (qza rfl qzb)))) (qza rfl qzb) (qz5 (fun hne => by first | rfl | exact absurd rfl hne) qzb), by show n.kids.length - (i + 1) < n.kids.length - i; omega⟩
  · have hie : i = n.kids.length := by have := of_decide_eq_false h; omega
    rw [hie, List.take_length] at hX
    rw [← hX] at hK
    exact ⟨_, .nil, hK⟩
theorem zwd : ∀ N, OK3 Tryz.prog 72 (stmtB N)
 | 0 => by
   refine fn_OK3 qzu (E := EV) (sp := spL []) qzt qzm (OKs.ok trivial) func72 rfl ntmps72 results72 call72 [1000] qk6 ?_
   rintro ys bx ar Kr Kp ⟨L, n, rfl, hsz, hN, hb, har, hl, hK⟩
   have := qz4 n
   omega
 | N + 1 => stmt_of (branch_of (blk_of (zwd N)))
theorem cblock_OK : OK3 Tryz.prog 51 (zk1 4096) := blk_of (zwd 4096)
end Lx
