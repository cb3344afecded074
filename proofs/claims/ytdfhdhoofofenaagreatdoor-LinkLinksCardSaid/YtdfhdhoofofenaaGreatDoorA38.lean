import Derived.Test.YtdfhdhoofofenaaGreatDoorA37
set_option linter.unusedSimpArgs false
set_option linter.unusedVariables false
set_option maxRecDepth 20000
namespace Lx
open Go
open Lg (Tok Tree)
open Go.Proofs (Tryz.prog)
open Go.Proofs.Tryz
theorem zj2 {α β : Type} {T : List Tok} {deep deep2 a : Int} {bad : β → Prop} {res : β → LV} {Kr : LV → Bx → Ar1 → Prop} {bad' : α → Prop} {res' : α → LV} {Kr' : LV → Bx → Ar1 → Prop} {x : Lg.PR α} {k : α → List Tok → Lg.PR β} (hK : refQ T deep a bad res Kr (Lg.bnd x k))
  (herr : ∀ p c, c ≠ 0 → flQ T deep bad res Kr c p → ∀ y i ts', bad' y → At T i ts' → Kr' (res' y) (put 1000 (rbx T i deep2 c p) nix) none)
  (hok : ∀ v ts' i, x = .ok (v, ts') → refQ T deep a bad res Kr (k v ts') → At T i ts' → Kr' (res' v) (put 1000 (rbx T i deep2 0 a) nix) none) : refQ T deep2 a bad' res' Kr' x := by
 cases x with
 | error q => exact fun hc y i hb ⟨ts', hA⟩ => herr q.1 q.2 hc (hK hc) y i ts' hb hA
 | ok q => exact fun i hA => hok q.1 q.2 i rfl hK hA
theorem zjs {one : List Tok → Lg.PR Tree} {ts : List Tok} (h : Lg.isT Lg.sRcu ts = true) : Lg.qw2 one ts = .ok ([], ts.tail) := by
 rw [Lg.qw2, if_pos h]
theorem zqq {one : List Tok → Lg.PR Tree} (he : ∀ ts x ts', one ts = .ok (x, ts') → ts'.length < ts.length) {ts : List Tok} (h : Lg.isT Lg.sRcu ts = false) :
  Lg.qw2 one ts = Lg.bnd (one ts) fun x ts' => Lg.bnd (Lg.qw2 one ts') fun xs ts'' => .ok (x :: xs, ts'') := by
 rw [Lg.qw2, if_neg (by rw [h]; decide)]
 cases h1 : one ts with
 | error q => rfl
 | ok q =>
   obtain ⟨x, ts'⟩ := q
   have h2 := he _ _ _ h1
   show (if ts'.length < ts.length then _ else _) = _
   rw [if_pos h2]
   rfl
def bkLV (d : Nat) : List D → LV
 | [] => .d (.imm (.slice none 0 0))
 | _ :: l => .os d 5 (l.length + 1)
def bkAr (d : Nat) : List D → Ar
 | [] => nix
 | x :: l => put d (5, 37, x :: l) nix
abbrev qke (T : List Tok) (deep : Int) (q : Int) (ds : List D) (i : Nat) (fl p : Int) : S :=
 ⟨66, put 0 (.bp 1000 0) (put 2 (.bp 2 0) (put 3 (.bp 3 0) nix)), put 1000 (rbx T i deep fl p) (put 2 ⟨qkg, 37⟩ (put 3 ⟨[.d (.int .i64 9), .d (.st []), .d (.int .i64 0), .d (.int .i64 q), bkLV 55 ds], 37⟩ nix)), bkAr 55 ds⟩
inductive BlkQ where
 | go (ds : List D) (acc : List Tree) (i : Nat) (ts : List Tok)
 | bad (ds : List D) (acc : List Tree) (i : Nat) (c p : Int)
def blkM : BlkQ → Nat
 | .go _ _ _ ts => ts.length + 1
 | .bad _ _ _ _ _ => 0
def blkOk (T : List Tok) (deep a : Int) (Kr : LV → Bx → Ar1 → Prop) (q : Int) (one : List Tok → Lg.PR Tree) : BlkQ → Prop
 | .go ds acc i ts => At T i ts ∧ qxl ds acc ∧ acc.length + ts.length ≤ 2097152 ∧ trQ' T deep a Kr (Lg.bnd (Lg.qw2 one ts) fun xs ts' => .ok (.node 9 [] 0 q (acc ++ xs), ts'))
 | .bad ds acc i c p => c ≠ 0 ∧ (∃ ts, At T i ts) ∧ qxl ds acc ∧ flQ T deep (fun _ => True) (fun t => .d (qzl t)) Kr c p
def blkF (T : List Tok) (deep a : Int) (q : Int) : BlkQ → S
 | .go ds _ i _ => qke T (deep + 1) q ds i 0 a
 | .bad ds _ i c p => qke T (deep + 1) q ds i c p
set_option maxHeartbeats 16000000 in
theorem qqw (deep : Int) (h0 : 0 ≤ deep) (h8 : deep < 8) (n : Nat) (hblock : OK Tryz.prog 58 (zzu (deep + 1) n)) : OK Tryz.prog 58 (zzu deep (n + 1)) := by
 refine fn_OK' qzu (E := EV) (sp := spL [(54, ris), (57, qvt), (25, qw3), (23, rhas), (77, (rstmtS (deep + 1) (Lg.block n)))]) qzt qzm (OKs.ok ⟨zzt, ⟨qjj, ⟨qxi, ⟨qq8, ⟨(rstmt_OK (deep + 1) (Lg.block n) hblock), trivial⟩⟩⟩⟩⟩) func58 rfl ntmps58 results58 call58 [1000] none ?_
 rintro ys bx Kr Kp ⟨T, i, ts, fl, a, rfl, hb, hA, hK⟩
 refine ⟨[(1000, rbx T i deep fl a)], rfl, ⟨by decide, hb, trivial⟩, by simp, ?_⟩
 have hd8 : decide (8 ≤ deep) = false := decide_eq_false (by omega)
 have hdd : deep + 1 - 1 = deep := by omega
 simp only [rbx, List.length_map, Int.toNat_natCast, hA.i0, hA.i1, hA.get, tokD, List.take_length, go_sem, push_cast, seval]
 refine qqm 1000 0 [0, 1, 2, 3, 4, 5, 6, 7, 8, 9, 10] (.all (.cons 11 (.all (.cons 12 (.all (.cons 13 .done .nil)) .nil)) (.cons 12 (.all (.cons 11 (.all (.cons 13 .done .nil)) .nil)) .nil))) ⟨66, put 0 (.bp 1000 0) (put 2 (.bp 2 0) (put 3 (.bp 3 0) nix)), put 1000 (rbx T i deep fl a) (put 2 ⟨qkg, 37⟩ (put 3 ⟨[.d (.int .i64 9), .d (.st []), .d (.int .i64 0), .d (.int .i64 (Lg.hd ts).pos), .d (.imm (.slice none 0 0))], 37⟩ nix)), nix⟩ (by kernel_rfl) (by kernel_rfl) ?_ ?_
 · simp only [rbx, List.length_map, Int.toNat_natCast, hA.i0, hA.i1, hA.get, tokD, List.take_length, go_sem, push_cast, seval]
   repeat' apply And.intro
   all_goals exact zsub (qza rfl (qza rfl (qza rfl qzb))) (qza rfl (qza rfl (qza rfl qzb))) qzb
 · rcases hK with ⟨rfl, hK⟩ | ⟨hf, hK⟩
   · rw [Lg.block] at hK
     simp only [go_sem, push_cast, seval]
     refine ⟨T, i, ts, deep, 0, a, Lg.sLcu, rfl, rfl, hA, .inl ⟨rfl, ?_⟩⟩
     simp only [rbx, hd8, go_sem, push_cast, seval]
     refine ⟨fun h => ?_, fun h => ?_⟩
     · refine ⟨_, T, i, ts, deep, 0, a, rfl, rfl, hA, .inl ⟨rfl, qze hK (fun p' c hc hE _ i' ts' hb' hA' => ?_) (fun _ ts1 i1 e hK hA1 => ?_)⟩⟩
       · have hc' : (c == 0) = false := by simpa using hc
         simp only [rbx, go_sem, push_cast, seval]
         refine ⟨by omega, ?_⟩
         refine qzk (T := Unit) (fun _ => qke T (deep + 1) (Lg.hd ts).pos [] i' c p') (fun _ => 0) ()
          (zsub (qza rfl (qza rfl (qza rfl qzb))) (qza rfl (qza rfl (qza rfl qzb))) qzb) ?_
         rintro ⟨⟩
         dsimp only [qke, bkLV, bkAr]
         simp only [rbx, hc', hdd, go_sem, push_cast, seval]
         exact ⟨by omega, _, qzc (qzd (.nil _ _)), hE (.node 9 [] 0 (Lg.hd ts).pos []) i' trivial ⟨ts', hA'⟩⟩
       · have b1 := hA1.2.1.2
         simp only [rbx, go_sem, push_cast, seval]
         refine ⟨by omega, ?_⟩
         refine qzk (T := { q : BlkQ // blkOk T deep a Kr (Lg.hd ts).pos (Lg.stmt (Lg.block n)) q }) (fun q => blkF T deep a (Lg.hd ts).pos q.val) (fun q => blkM q.val) ⟨.go [] [] i1 ts1, hA1, .nil, by show 0 + ts1.length ≤ 2097152; omega, hK⟩
          (zsub (qza rfl (qza rfl (qza rfl qzb))) (qza rfl (qza rfl (qza rfl qzb))) qzb) ?_
         rintro ⟨q, hq⟩
         cases q with
         | go ds acc i2 ts2 =>
           obtain ⟨hA2, hS, hn, hK⟩ := hq
           cases ds with
           | nil =>
             dsimp only [blkF, qke, bkLV, bkAr]
             have hl := hS.len
             simp only [rbx, go_sem, push_cast, seval]
             refine ⟨T, i2, ts2, deep + 1, 0, a, Lg.sRcu, rfl, rfl, hA2, .inl ⟨rfl, fun h => ?_, fun h => ?_⟩⟩
             · rw [zjs h] at hK
               simp only [rbx, hdd, go_sem, push_cast, seval]
               have hK2 := hK (i2 + 1) (hA2.isT h)
               dsimp only at hK2
               rw [List.append_nil] at hK2
               exact ⟨by omega, _, qzc (qzd (by cases acc with | nil => exact .nil _ _ | cons y l => cases hS)), hK2⟩
             · rw [zqq (Lg.stmt_eats (Lg.zxg n)) h, bnd3] at hK
               simp only [rbx, go_sem, push_cast, seval]
               refine ⟨T, i2, ts2, a, rfl, rfl, hA2, zj2 hK (fun p' c hc hE x i' ts' hb' hA' => ?_) (fun x ts3 i3 e hK hA3 => ?_)⟩
               · simp only [go_sem, push_cast, seval]
                 exact ⟨⟨.bad (([]) ++ [exD x]) (acc ++ [x]) i' c p', hc, ⟨ts', hA'⟩, hS.snoc (qzi x), hE⟩, zsub (qza rfl (qza rfl (qza rfl qzb))) (qza rfl (qza rfl (qza rfl qzb))) (qza rfl qzb), Nat.succ_pos _⟩
               · have h1 := Lg.stmt_eats (Lg.zxg n) _ _ _ e
                 rw [bnd3] at hK
                 simp only [go_sem, push_cast, seval]
                 refine ⟨⟨.go (([]) ++ [exD x]) (acc ++ [x]) i3 ts3, hA3, hS.snoc (qzi x), by rw [List.length_append, List.length_singleton]; omega, ?_⟩, zsub (qza rfl (qza rfl (qza rfl qzb))) (qza rfl (qza rfl (qza rfl qzb))) (qza rfl qzb), by show ts3.length + 1 < ts2.length + 1; omega⟩
                 show trQ' T deep a Kr (Lg.bnd (Lg.qw2 _ ts3) fun xs ts' => .ok (.node 9 [] 0 (Lg.hd ts).pos ((acc ++ [x]) ++ xs), ts'))
                 simp only [List.append_assoc, List.singleton_append]
                 exact hK
           | cons d ds =>
             dsimp only [blkF, qke, bkLV, bkAr]
             have hl := hS.len
             simp only [rbx, go_sem, push_cast, seval]
             refine ⟨T, i2, ts2, deep + 1, 0, a, Lg.sRcu, rfl, rfl, hA2, .inl ⟨rfl, fun h => ?_, fun h => ?_⟩⟩
             · rw [zjs h] at hK
               simp only [rbx, hdd, go_sem, push_cast, seval]
               have hK2 := hK (i2 + 1) (hA2.isT h)
               dsimp only at hK2
               rw [List.append_nil] at hK2
               exact ⟨by omega, _, qzc (qzd (qzn hS)), hK2⟩
             · rw [zqq (Lg.stmt_eats (Lg.zxg n)) h, bnd3] at hK
               simp only [rbx, go_sem, push_cast, seval]
               refine ⟨T, i2, ts2, a, rfl, rfl, hA2, zj2 hK (fun p' c hc hE x i' ts' hb' hA' => ?_) (fun x ts3 i3 e hK hA3 => ?_)⟩
               · simp only [go_sem, push_cast, seval]
                 refine ⟨by simp only [List.length_cons] at hl; omega, by simp only [List.length_cons] at hl; omega, ?_⟩
                 exact ⟨⟨.bad ((d :: ds) ++ [exD x]) (acc ++ [x]) i' c p', hc, ⟨ts', hA'⟩, hS.snoc (qzi x), hE⟩, zsub (qza rfl (qza rfl (qza rfl qzb))) (qza rfl (qza rfl (qza (by simp [put, bkLV]) qzb))) (qza rfl qzb), Nat.succ_pos _⟩
               · have h1 := Lg.stmt_eats (Lg.zxg n) _ _ _ e
                 rw [bnd3] at hK
                 simp only [go_sem, push_cast, seval]
                 refine ⟨by simp only [List.length_cons] at hl; omega, by simp only [List.length_cons] at hl; omega, ?_⟩
                 refine ⟨⟨.go ((d :: ds) ++ [exD x]) (acc ++ [x]) i3 ts3, hA3, hS.snoc (qzi x), by rw [List.length_append, List.length_singleton]; omega, ?_⟩, zsub (qza rfl (qza rfl (qza rfl qzb))) (qza rfl (qza rfl (qza (by simp [put, bkLV]) qzb))) (qza rfl qzb), by show ts3.length + 1 < ts2.length + 1; omega⟩
                 show trQ' T deep a Kr (Lg.bnd (Lg.qw2 _ ts3) fun xs ts' => .ok (.node 9 [] 0 (Lg.hd ts).pos ((acc ++ [x]) ++ xs), ts'))
                 simp only [List.append_assoc, List.singleton_append]
                 exact hK
         | bad ds acc i2 c p' =>
           obtain ⟨hc, ⟨ts', hA'⟩, hS, hE⟩ := hq
           have hc' : (c == 0) = false := by simpa using hc
           cases ds with
           | nil =>
             dsimp only [blkF, qke, bkLV, bkAr]
             simp only [rbx, hc', hdd, go_sem, push_cast, seval]
             exact ⟨by omega, _, qzc (qzd (by cases acc with | nil => exact .nil _ _ | cons y l => cases hS)), hE (.node 9 [] 0 (Lg.hd ts).pos acc) i2 trivial ⟨ts', hA'⟩⟩
           | cons d ds =>
             dsimp only [blkF, qke, bkLV, bkAr]
             simp only [rbx, hc', hdd, go_sem, push_cast, seval]
             exact ⟨by omega, _, qzc (qzd (qzn hS)), hE (.node 9 [] 0 (Lg.hd ts).pos acc) i2 trivial ⟨ts', hA'⟩⟩
     · refine ⟨_, T, i, ts, deep, 0, a, rfl, rfl, hA, .inl ⟨rfl, qze hK (fun p' c hc hE _ i' ts' hb' hA' => ?_) (fun _ ts1 i1 e hK hA1 => ?_)⟩⟩
       · have hc' : (c == 0) = false := by simpa using hc
         simp only [rbx, go_sem, push_cast, seval]
         refine ⟨by omega, ?_⟩
         refine qzk (T := Unit) (fun _ => qke T (deep + 1) (Lg.hd ts).pos [] i' c p') (fun _ => 0) ()
          (zsub (qza rfl (qza rfl (qza rfl qzb))) (qza rfl (qza rfl (qza rfl qzb))) qzb) ?_
         rintro ⟨⟩
         dsimp only [qke, bkLV, bkAr]
         simp only [rbx, hc', hdd, go_sem, push_cast, seval]
         exact ⟨by omega, _, qzc (qzd (.nil _ _)), hE (.node 9 [] 0 (Lg.hd ts).pos []) i' trivial ⟨ts', hA'⟩⟩
       · exfalso
         have : Lg.must Lg.sLcu ts = .ok (_, ts1) := e
         unfold Lg.must Lg.flt at this
         rw [if_neg (qzf h)] at this
         cases this
   · simp only [go_sem, push_cast, seval]
     (refine ⟨T, i, ts, deep, fl, a, _, rfl, rfl, hA, .inr ⟨hf, ?_⟩⟩; simp only [go_sem, push_cast, seval])
     (refine ⟨_, T, i, ts, deep, fl, a, rfl, rfl, hA, .inr ⟨hf, fun _ _ => ?_⟩⟩; simp only [go_sem, push_cast, seval])
     have hf' : (fl == 0) = false := by simpa using hf
     simp only [rbx, hf', hdd, go_sem, push_cast, seval]
     refine ⟨by omega, ?_⟩
     refine qzk (T := Unit) (fun _ => qke T (deep + 1) (Lg.hd ts).pos [] i fl a) (fun _ => 0) ()
      (zsub (qza rfl (qza rfl (qza rfl qzb))) (qza rfl (qza rfl (qza rfl qzb))) qzb) ?_
     rintro ⟨⟩
     dsimp only [qke, bkLV, bkAr]
     simp only [rbx, hf', hdd, go_sem, push_cast, seval]
     exact ⟨by omega, _, qzc (qzd (.nil _ _)), hK (.node 9 [] 0 (Lg.hd ts).pos []) trivial⟩
set_option maxHeartbeats 8000000 in
theorem zvb : OK Tryz.prog 58 (zzu 8 0) := by
 refine fn_OK' qzu (E := EV) (sp := spL [(54, ris), (57, qvt), (25, qw3)]) qzt qzm (OKs.ok ⟨zzt, ⟨qjj, ⟨qxi, trivial⟩⟩⟩) func58 rfl ntmps58 results58 call58 [1000] none ?_
 rintro ys bx Kr Kp ⟨T, i, ts, fl, a, rfl, hb, hA, hK⟩
 refine ⟨[(1000, rbx T i 8 fl a)], rfl, ⟨by decide, hb, trivial⟩, by simp, ?_⟩
 simp only [rbx, List.length_map, Int.toNat_natCast, hA.i0, hA.i1, hA.get, tokD, List.take_length, go_sem, push_cast, seval]
 refine qqm 1000 0 [0, 1, 2, 3, 4, 5, 6, 7, 8, 9, 10] (.all (.cons 11 (.all (.cons 12 (.all (.cons 13 .done .nil)) .nil)) (.cons 12 (.all (.cons 11 (.all (.cons 13 .done .nil)) .nil)) .nil))) ⟨66, put 0 (.bp 1000 0) (put 2 (.bp 2 0) (put 3 (.bp 3 0) nix)), put 1000 (rbx T i 8 fl a) (put 2 ⟨qkg, 37⟩ (put 3 ⟨[.d (.int .i64 9), .d (.st []), .d (.int .i64 0), .d (.int .i64 (Lg.hd ts).pos), .d (.imm (.slice none 0 0))], 37⟩ nix)), nix⟩ (by kernel_rfl) (by kernel_rfl) ?_ ?_
 · simp only [rbx, List.length_map, Int.toNat_natCast, hA.i0, hA.i1, hA.get, tokD, List.take_length, go_sem, push_cast, seval]
   repeat' apply And.intro
   all_goals exact zsub (qza rfl (qza rfl (qza rfl qzb))) (qza rfl (qza rfl (qza rfl qzb))) qzb
 · rcases hK with ⟨rfl, hK⟩ | ⟨hf, hK⟩
   · rw [Lg.block] at hK
     simp only [go_sem, push_cast, seval]
     refine ⟨T, i, ts, 8, 0, a, Lg.sLcu, rfl, rfl, hA, .inl ⟨rfl, ?_⟩⟩
     simp only [rbx, go_sem, push_cast, seval]
     refine ⟨fun h => ?_, fun h => ?_⟩
     · rw [if_pos h] at hK
       refine ⟨fun _ => ?_, fun h' => absurd h' (by decide)⟩
       refine ⟨T, i, ts, 8, 0, a, 21, rfl, rfl, hA, .inl ⟨rfl, ?_⟩⟩
       simp only [go_sem, push_cast, seval]
       refine ⟨_, T, i, ts, 8, 21, (Lg.hd ts).pos, rfl, rfl, hA, .inr ⟨by decide, fun _ _ => ?_⟩⟩
       simp only [rbx, go_sem, push_cast, seval]
       refine qzk (T := Unit) (fun _ => qke T 9 (Lg.hd ts).pos [] i 21 (Lg.hd ts).pos) (fun _ => 0) ()
        (zsub (qza rfl (qza rfl (qza rfl qzb))) (qza rfl (qza rfl (qza rfl qzb))) qzb) ?_
       rintro ⟨⟩
       dsimp only [qke, bkLV, bkAr]
       simp only [rbx, go_sem, push_cast, seval]
       exact ⟨_, qzc (qzd (.nil _ _)), hK (by decide) (.node 9 [] 0 (Lg.hd ts).pos []) i trivial ⟨ts, hA⟩⟩
     · rw [if_neg (qzf h)] at hK
       refine ⟨_, T, i, ts, 8, 0, a, rfl, rfl, hA, .inl ⟨rfl, ?_⟩⟩
       have hm : Lg.must [123] ts = Lg.flt 20 ts := by
        show Lg.must Lg.sLcu ts = _
        unfold Lg.must; rw [if_neg (qzf h)]
       rw [hm]
       intro hc y i' hy hA'
       simp only [rbx, go_sem, push_cast, seval]
       refine qzk (T := Unit) (fun _ => qke T 9 (Lg.hd ts).pos [] i' 20 (Lg.hd ts).pos) (fun _ => 0) ()
        (zsub (qza rfl (qza rfl (qza rfl qzb))) (qza rfl (qza rfl (qza rfl qzb))) qzb) ?_
       rintro ⟨⟩
       dsimp only [qke, bkLV, bkAr]
       simp only [rbx, go_sem, push_cast, seval]
       exact ⟨_, qzc (qzd (.nil _ _)), hK hc (.node 9 [] 0 (Lg.hd ts).pos []) i' trivial hA'⟩
   · simp only [go_sem, push_cast, seval]
     refine ⟨T, i, ts, 8, fl, a, _, rfl, rfl, hA, .inr ⟨hf, ?_⟩⟩
     simp only [go_sem, push_cast, seval]
     refine ⟨_, T, i, ts, 8, fl, a, rfl, rfl, hA, .inr ⟨hf, fun _ _ => ?_⟩⟩
     have hf' : (fl == 0) = false := by simpa using hf
     simp only [rbx, hf', go_sem, push_cast, seval]
     refine qzk (T := Unit) (fun _ => qke T 9 (Lg.hd ts).pos [] i fl a) (fun _ => 0) ()
      (zsub (qza rfl (qza rfl (qza rfl qzb))) (qza rfl (qza rfl (qza rfl qzb))) qzb) ?_
     rintro ⟨⟩
     dsimp only [qke, bkLV, bkAr]
     simp only [rbx, hf', go_sem, push_cast, seval]
     exact ⟨_, qzc (qzd (.nil _ _)), hK (.node 9 [] 0 (Lg.hd ts).pos []) trivial⟩
theorem rblock_OK : OK Tryz.prog 58 (zzu 0 8) := by
 have h1 := qqw 7 (by decide) (by decide) 0 zvb
 have h2 := qqw 6 (by decide) (by decide) 1 h1
 have h3 := qqw 5 (by decide) (by decide) 2 h2
 have h4 := qqw 4 (by decide) (by decide) 3 h3
 have h5 := qqw 3 (by decide) (by decide) 4 h4
 have h6 := qqw 2 (by decide) (by decide) 5 h5
 have h7 := qqw 1 (by decide) (by decide) 6 h6
 exact qqw 0 (by decide) (by decide) 7 h7
end Lx
