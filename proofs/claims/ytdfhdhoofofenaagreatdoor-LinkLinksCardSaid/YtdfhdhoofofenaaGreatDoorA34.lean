import Derived.Test.YtdfhdhoofofenaaGreatDoorA33
set_option linter.unusedSimpArgs false
set_option linter.unusedVariables false
set_option maxRecDepth 20000
namespace Lx
open Go
open Lg (Tok Tree)
open Go.Proofs (Tryz.prog)
open Go.Proofs.Tryz
abbrev qkg : List LV := [.d (.int .i64 0), .d (.st []), .d (.int .i64 0), .d (.int .i64 0), .d (.imm (.slice none 0 0))]
def qxl (ds : List D) (ts : List Tree) : Prop := D.les ds (qzh ts)
theorem qxl.snoc {ds : List D} {ts : List Tree} (h : qxl ds ts) {x : D} {t : Tree} (hx : D.le x (qzl t)) : qxl (ds ++ [x]) (ts ++ [t]) := by
 unfold qxl at *
 rw [qz2]
 induction ds generalizing ts with
 | nil => cases ts with
   | nil => exact .cons hx .nil
   | cons t ts => cases h
 | cons d ds ih => cases ts with
   | nil => cases h
   | cons t ts =>
     cases h with
     | cons h1 h2 => exact .cons h1 (ih h2)
theorem qxl.len {ds : List D} {ts : List Tree} (h : qxl ds ts) : ds.length = ts.length := by
 rw [D.les.length h, qzp]
theorem zxj {ts : List Tok} (h : ts.length < 1 → False) : ts.tail.length < ts.length := by
 cases ts with
 | nil => exact (h (by decide)).elim
 | cons t l => simp
theorem zxu {one : List Tok → Lg.PR Tree} (he : ∀ ts x ts', one ts = .ok (x, ts') → ts'.length < ts.length) {ts : List Tok} (h : Lg.isT Lg.sComma ts = true) :
  Lg.qq7 one ts = Lg.bnd (one ts.tail) fun x ts' => Lg.bnd (Lg.qq7 one ts') fun xs ts'' => .ok (x :: xs, ts'') := by
 rw [Lg.qq7, if_pos h]
 cases h1 : one ts.tail with
 | error q => rfl
 | ok q =>
   obtain ⟨x, ts'⟩ := q
   have h2 := he _ _ _ h1
   have h3 : ts.tail.length ≤ ts.length := by rw [List.length_tail]; omega
   show (if ts'.length < ts.length then _ else _) = _
   rw [if_pos (by omega)]
   rfl
theorem zkf {one : List Tok → Lg.PR Tree} {ts : List Tok} (h : Lg.isT Lg.sComma ts = false) : Lg.qq7 one ts = .ok ([], ts) := by
 rw [Lg.qq7, if_neg (by rw [h]; decide)]
def qjf {β : Type} (one : List Tok → Lg.PR Tree) (k : List Tree → List Tok → Lg.PR β) (acc : List Tree) (ts : List Tok) : Lg.PR β := Lg.bnd (Lg.qq7 one ts) fun xs ts => k (acc ++ xs) ts
theorem qqr {β : Type} {one : List Tok → Lg.PR Tree} (he : ∀ ts x ts', one ts = .ok (x, ts') → ts'.length < ts.length) {k : List Tree → List Tok → Lg.PR β} {acc : List Tree} {ts : List Tok} (h : Lg.isT Lg.sComma ts = true) :
  qjf one k acc ts = Lg.bnd (one ts.tail) fun x ts' => qjf one k (acc ++ [x]) ts' := by
 unfold qjf
 rw [zxu he h, bnd3]
 congr 1
 funext x ts'
 rw [bnd3]
 congr 1
 funext xs ts''
 show k (acc ++ x :: xs) ts'' = k (acc ++ [x] ++ xs) ts''
 rw [List.append_assoc]; rfl
theorem qxg {β : Type} {one : List Tok → Lg.PR Tree} {k : List Tree → List Tok → Lg.PR β} {acc : List Tree} {ts : List Tok} (h : Lg.isT Lg.sComma ts = false) : qjf one k acc ts = k acc ts := by
 unfold qjf
 rw [zkf h]
 show k (acc ++ []) ts = _
 rw [List.append_nil]
theorem qk3 {β : Type} (one : List Tok → Lg.PR Tree) (k : List Tree → List Tok → Lg.PR β) (ts : List Tok) : Lg.bnd (Lg.list one ts) k = Lg.bnd (one ts) fun x ts' => qjf one k [x] ts' := by
 unfold Lg.list qjf
 rw [bnd3]
 congr 1
 funext x ts'
 rw [bnd3]
 rfl
abbrev argK (xs : List Tree) (ts : List Tok) : Lg.PR (List Tree) := Lg.bnd (Lg.must Lg.sRpar ts) fun _ ts => .ok (xs, ts)
abbrev argSt (T : List Tok) (deep : Int) (ds : List D) (w : Tree) (i : Nat) (fl p : Int) : S :=
 ⟨36, put 0 (.bp 1000 0) (put 4 (.bp 4 0) (put 5 (.os 22 5 ds.length) nix)), put 1000 (rbx T i deep fl p) (put 4 ⟨[.d (.int .i64 w.kind), .d (.st w.text), .d (.int .i64 w.num), .d (.int .i64 w.pos), .d (.imm (.slice none 0 0))], 37⟩ nix), put 22 (5, 37, ds) nix⟩
set_option maxHeartbeats 4000000 in
theorem zxs : OK Tryz.prog 101 (refP (fun _ => True) (fun xs => .d (.sl 5 (qzh xs) false)) Lg.args []) := by
 refine fn_OK' qzu (E := (EO 22)) (sp := spL [(25, qw3), (23, rhas), (78, (refP (fun _ => True) (fun t => .d (qxm t)) Lg.term []))]) qzt qzm (OKs.ok ⟨qxi, ⟨qq8, ⟨qvs, trivial⟩⟩⟩) func101 rfl ntmps101 results101 call101 [1000] none ?_
 rintro ys bx Kr Kp ⟨T, i, ts, deep, fl, a, rfl, hb, hA, hK⟩
 refine ⟨[(1000, rbx T i deep fl a)], rfl, ⟨by decide, hb, trivial⟩, by simp, ?_⟩
 simp only [go_sem, push_cast, seval]
 rcases hK with ⟨rfl, hK⟩ | ⟨hf, hK⟩
 · unfold Lg.args at hK
   refine ⟨_, T, i, ts, deep, 0, a, rfl, rfl, hA, .inl ⟨rfl, qze hK (fun p' c hc hE _ i' ts' hb' hA' => ?_) (fun _ ts1 i1 e hK hA1 => ?_)⟩⟩
   · simp only [go_sem, push_cast, seval]
     (refine ⟨T, i', ts', deep, c, p', _, rfl, rfl, hA', .inr ⟨hc, ?_⟩⟩; simp only [go_sem, push_cast, seval])
     have hc' : (c != 0) = true := by simpa using hc
     simp only [rbx, hc', go_sem, push_cast, seval]
     exact ⟨_, qzc (.nil _ _), hE [] i' trivial ⟨ts', hA'⟩⟩
   · simp only [go_sem, push_cast, seval]
     refine ⟨T, i1, ts1, deep, 0, a, Lg.sRpar, rfl, rfl, hA1, .inl ⟨rfl, fun h => ?_, fun h => ?_⟩⟩
     · rw [if_pos h] at hK
       simp only [go_sem, push_cast, seval]
       exact ⟨_, qzc (.nil _ _), hK _ (hA1.isT h)⟩
     · rw [if_neg (qzf h), qk3] at hK
       simp only [rbx, go_sem, push_cast, seval]
       refine ⟨T, i1, ts1, deep, 0, a, rfl, rfl, hA1, .inl ⟨rfl, qze hK (fun p' c hc hE v i' ts' hb' hA' => ?_) (fun v ts2 i2 e hK hA2 => ?_)⟩⟩
       · simp only [go_sem, push_cast, seval]
         refine qzk (T := Unit) (fun _ => argSt T deep [qxm v] v i' c p') (fun _ => 0) ()
          (zsub (qza rfl (qza rfl (qza rfl qzb))) (qza rfl (qza rfl qzb)) (qza rfl qzb)) ?_
         rintro ⟨⟩
         dsimp only [argSt]
         simp only [go_sem, push_cast, seval]
         (refine ⟨T, i', ts', deep, c, p', _, rfl, rfl, hA', .inr ⟨hc, ?_⟩⟩; simp only [go_sem, push_cast, seval])
         (refine ⟨_, T, i', ts', deep, c, p', rfl, rfl, hA', .inr ⟨hc, fun _ _ => ?_⟩⟩; simp only [go_sem, push_cast, seval])
         exact ⟨_, qzc (qzn (ts := [qz8 v]) (.cons (qz3 v) .nil)), hE [qz8 v] i' trivial ⟨ts', hA'⟩⟩
       · have hv := qxf e
         simp only [go_sem, push_cast, seval]
         refine qzk (T := { q : List D × Tree × Nat × List Tok × List Tree // At T q.2.2.1 q.2.2.2.1 ∧ qxl q.1 q.2.2.2.2 ∧ q.2.2.2.2.length + q.2.2.2.1.length ≤ 2097152 ∧ refQ T deep a (fun _ => True) (fun xs => .d (.sl 5 (qzh xs) false)) Kr (qjf Lg.term argK q.2.2.2.2 q.2.2.2.1) } ⊕
           { q : List D × Tree × Nat × Int × Int × List Tree // q.2.2.2.1 ≠ 0 ∧ (∃ ts, At T q.2.2.1 ts) ∧ qxl q.1 q.2.2.2.2.2 ∧ flQ T deep (fun _ => True) (fun xs => .d (.sl 5 (qzh xs) false)) Kr q.2.2.2.1 q.2.2.2.2.1 })
          (fun q => match q with
            | .inl q => argSt T deep q.1.1 q.1.2.1 q.1.2.2.1 0 a
            | .inr q => argSt T deep q.1.1 q.1.2.1 q.1.2.2.1 q.1.2.2.2.1 q.1.2.2.2.2.1)
          (fun q => match q with | .inl q => q.1.2.2.2.1.length + 1 | .inr _ => 0) (.inl ⟨([qxm v], v, i2, ts2, [v]), hA2, .cons (qqv hv) .nil, ?_, hK⟩)
          (zsub (qza rfl (qza rfl (qza rfl qzb))) (qza rfl (qza rfl qzb)) (qza rfl qzb)) ?_
         · have h1 := Lg.qq1 _ _ _ e
           have h2 := hA1.2.1.2
           show 1 + ts2.length ≤ 2097152
           omega
         rintro (⟨⟨ds, w, i3, ts3, acc⟩, hA3', hS', hn', hK'⟩ | ⟨⟨ds, w, i3, c, p', acc⟩, hc', hA3', hS', hE'⟩)
         · have hA3 : At T i3 ts3 := hA3'
           have hS : qxl ds acc := hS'
           have hn : acc.length + ts3.length ≤ 2097152 := hn'
           replace hK : refQ T deep a (fun _ => True) (fun xs => .d (.sl 5 (qzh xs) false)) Kr (qjf Lg.term argK acc ts3) := hK'
           dsimp only [argSt]; clear hA3' hS' hn' hK'
           simp only [go_sem, push_cast, seval]
           refine ⟨T, i3, ts3, deep, 0, a, Lg.sComma, rfl, rfl, hA3, .inl ⟨rfl, fun h => ?_, fun h => ?_⟩⟩
           · rw [qqr Lg.qq1 h] at hK
             simp only [go_sem, push_cast, seval]
             have hl := hS.len
             refine ⟨T, i3 + 1, ts3.tail, deep, 0, a, rfl, rfl, hA3.isT h, .inl ⟨rfl, qze hK (fun p' c hc hE x i' ts' hb' hA' => ?_) (fun x ts4 i4 e hK hA4 => ?_)⟩⟩
             · simp only [go_sem, push_cast, seval]
               refine ⟨by omega, by omega, ⟨.inr ⟨(ds ++ [qxm x], x, i', c, p', acc ++ [qz8 x]), hc, ⟨ts', hA'⟩, hS.snoc (qz3 x), hE⟩, zsub (qza rfl (qza rfl (qza (by simp [put]) qzb))) (qza rfl (qza rfl qzb)) (qza rfl qzb), Nat.succ_pos _⟩⟩
             · have hx := qxf e
               have h1 := Lg.qq1 _ _ _ e
               have h2 : ts3.tail.length < ts3.length := zxj (fun h => by have := hA3.2.1.cons; obtain ⟨t, l, rfl⟩ := this; simp at h)
               simp only [go_sem, push_cast, seval]
               refine ⟨by omega, by omega, ⟨.inl ⟨(ds ++ [qxm x], x, i4, ts4, acc ++ [x]), hA4, hS.snoc (qqv hx), by rw [List.length_append, List.length_singleton]; show acc.length + 1 + ts4.length ≤ 2097152; omega, hK⟩, zsub (qza rfl (qza rfl (qza (by simp [put]) qzb))) (qza rfl (qza rfl qzb)) (qza rfl qzb), by show ts4.length + 1 < ts3.length + 1; omega⟩⟩
           · rw [qxg h] at hK
             simp only [go_sem, push_cast, seval]
             refine ⟨_, T, i3, ts3, deep, 0, a, rfl, rfl, hA3, .inl ⟨rfl, qze hK (fun p' c hc hE _ i' ts' hb' hA' => ?_) (fun _ ts4 i4 e hK hA4 => ?_)⟩⟩
             · simp only [go_sem, push_cast, seval]
               exact ⟨_, qzc (qzn hS), hE acc i' trivial ⟨ts', hA'⟩⟩
             · simp only [go_sem, push_cast, seval]
               exact ⟨_, qzc (qzn hS), hK i4 hA4⟩
         · have hc : c ≠ 0 := hc'
           obtain ⟨ts', hA'0⟩ := hA3'
           have hA' : At T i3 ts' := hA'0
           have hS : qxl ds acc := hS'
           have hE : flQ T deep (fun _ => True) (fun xs => .d (.sl 5 (qzh xs) false)) Kr c p' := hE'
           dsimp only [argSt]; clear hc' hA'0 hS' hE'
           simp only [go_sem, push_cast, seval]
           refine ⟨T, i3, ts', deep, c, p', _, rfl, rfl, hA', .inr ⟨hc, ?_⟩⟩
           simp only [go_sem, push_cast, seval]
           refine ⟨_, T, i3, ts', deep, c, p', rfl, rfl, hA', .inr ⟨hc, fun _ _ => ?_⟩⟩
           simp only [go_sem, push_cast, seval]
           exact ⟨_, qzc (qzn hS), hE acc i3 trivial ⟨ts', hA'⟩⟩
 · (refine ⟨_, T, i, ts, deep, fl, a, rfl, rfl, hA, .inr ⟨hf, fun _ _ => ?_⟩⟩; simp only [go_sem, push_cast, seval])
   (refine ⟨T, i, ts, deep, fl, a, _, rfl, rfl, hA, .inr ⟨hf, ?_⟩⟩; simp only [go_sem, push_cast, seval])
   have hf' : (fl != 0) = true := by simpa using hf
   simp only [rbx, hf', go_sem, push_cast, seval]
   exact ⟨_, qzc (.nil _ _), hK [] trivial⟩
end Lx
