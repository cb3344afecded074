/-
  What is true of images: their functions, names, calls. (Plain.)
-/
import Derived.Test.YtmebnccnmhndiaaDoorKp
set_option linter.unusedVariables false
namespace Lg

theorem lowerT_fn {f : Tree} (h : isFn f = true) : (lowerT f).name = f.text ∧ (lowerT f).list = bodyC 0 f.kids := by
  unfold lowerT
  rw [if_pos (by simpa [isFn] using h)]
  exact ⟨rfl, rfl⟩
theorem fns_fn {n f : Tree} (h : f ∈ fns n) : isFn f = true ∧ f ∈ n.kids := by
  unfold fns at h
  rw [List.mem_filter] at h
  exact ⟨h.2, h.1⟩
/-- Different functions have different names. -/
def Dist (cs : List Cod) : Prop := cs.Pairwise fun c d => c.name ≠ d.name
theorem addR_ok {cl : Bool} : ∀ {fs : List Tree} {cs ds : List Cod}, (∀ f ∈ fs, isFn f = true) → Dist cs → addR cl cs fs = .ok ds → ds = cs ++ fs.map lowerT ∧ Dist ds
  | [], cs, ds, _, hd, h => by
    simp only [addR, Except.ok.injEq] at h
    subst h
    exact ⟨by simp, hd⟩
  | f :: fs, cs, ds, hf, hd, h => by
    unfold addR at h
    split at h
    · cases h
    · rename_i hn
      have hd' : Dist (cs ++ [lowerT f]) := by
        unfold Dist
        rw [List.pairwise_append]
        refine ⟨hd, List.pairwise_singleton _ _, fun c hc d hd' => ?_⟩
        rw [List.mem_singleton] at hd'
        subst hd'
        rw [(lowerT_fn (hf f (by simp))).1]
        intro e
        exact hn (List.any_eq_true.2 ⟨c, hc, by simp [cnamed, e]⟩)
      obtain ⟨h1, h2⟩ := addR_ok (fun g hg => hf g (by simp [hg])) hd' h
      exact ⟨by rw [h1]; simp, h2⟩
theorem addR_err {cl : Bool} : ∀ {fs : List Tree} {cs : List Cod} {p c : Int} {w : Bool}, addR cl cs fs = .error (p, w, c) → w = cl ∧ c = 30 ∧ ∃ f ∈ fs, f.pos = p
  | [], cs, p, c, w, h => by simp [addR] at h
  | f :: fs, cs, p, c, w, h => by
    unfold addR at h
    split at h
    · simp only [Except.error.injEq, Prod.mk.injEq] at h
      exact ⟨h.2.1.symm, h.2.2.symm, f, by simp, h.1⟩
    · obtain ⟨h1, h2, g, hg, h3⟩ := addR_err h
      exact ⟨h1, h2, g, by simp [hg], h3⟩
theorem wantsR_ok {cs : List Cod} {libs : Int} {cl : Bool} : ∀ {l : List Inst}, wantsR cs libs cl l = .ok () → ∀ i ∈ l, wantI cs libs i = 0
  | [], _, i, hi => by simp at hi
  | j :: l, h, i, hi => by
    unfold wantsR at h
    split at h
    · rcases List.mem_cons.1 hi with e | hi
      · subst e; assumption
      · exact wantsR_ok h i hi
    · cases h
theorem wantsR_err {cs : List Cod} {libs : Int} {cl w : Bool} {p c : Int} : ∀ {l : List Inst}, wantsR cs libs cl l = .error (p, w, c) → w = cl ∧ ∃ i ∈ l, i.at_ = p ∧ wantI cs libs i = c ∧ c ≠ 0
  | [], h => by simp [wantsR] at h
  | j :: l, h => by
    unfold wantsR at h
    split at h
    · obtain ⟨h1, i, hi, h2⟩ := wantsR_err h
      exact ⟨h1, i, by simp [hi], h2⟩
    · rename_i hn
      simp only [Except.error.injEq, Prod.mk.injEq] at h
      exact ⟨h.2.1.symm, j, by simp, h.1, h.2.2, h.2.2 ▸ hn⟩
theorem checkR_ok {cs : List Cod} {libs : Int} : ∀ {r : List Cod} {n : Nat}, checkR cs libs n r = .ok () → ∀ c ∈ r, ∀ i ∈ c.list, wantI cs libs i = 0
  | [], _, _, c, hc => by simp at hc
  | d :: r, n, h, c, hc => by
    unfold checkR at h
    split at h
    · cases h
    · rename_i hw
      rcases List.mem_cons.1 hc with e | hc
      · subst e; exact wantsR_ok hw
      · exact checkR_ok h c hc
theorem checkR_err {cs : List Cod} {libs : Int} {w : Bool} {p c : Int} : ∀ {r : List Cod} {n : Nat}, checkR cs libs n r = .error (p, w, c) → ∃ (k : Nat) (h : k < r.length), w = decide (libs ≤ ((n + k : Nat) : Int)) ∧ ∃ i ∈ (r[k]).list, i.at_ = p ∧ wantI cs libs i = c ∧ c ≠ 0
  | [], n, h => by simp [checkR] at h
  | d :: r, n, h => by
    unfold checkR at h
    split at h
    · rename_i e hw
      simp only [Except.error.injEq] at h
      subst h
      obtain ⟨h1, h2⟩ := wantsR_err hw
      exact ⟨0, by simp, by simpa using h1, by simpa using h2⟩
    · obtain ⟨k, hk, h1, h2⟩ := checkR_err h
      exact ⟨k + 1, by simpa using hk, by rw [h1]; congr 1; simp only [eq_iff_iff]; constructor <;> intro q <;> omega, by simpa using h2⟩
theorem wantI_cases {cs : List Cod} {libs : Int} {i : Inst} : wantI cs libs i = 0 ∨ wantI cs libs i = 31 ∨ wantI cs libs i = 51 := by
  unfold wantI
  split
  · exact .inl rfl
  · split
    · exact .inr (.inl rfl)
    · split
      · split
        · exact .inl rfl
        · exact .inr (.inr rfl)
      · exact .inr (.inr rfl)
theorem wantI_op {cs : List Cod} {libs : Int} {i : Inst} (h : wantI cs libs i ≠ 0) : i.op = 12 ∨ i.op = 13 := by
  unfold wantI at h
  split at h
  · exact absurd rfl h
  · omega
theorem mainR_ok {cs : List Cod} {libs : Int} {m : Img} (h : mainR cs libs = .ok m) : m.codes = cs ∧ m.libs = libs ∧ libs ≤ m.main ∧ ∃ (k : Nat) (hk : k < cs.length), m.main = k ∧ (cs[k]).name = sMain := by
  unfold mainR at h
  split at h
  · cases h
  · rename_i hn
    split at h
    · split at h
      · simp only [Except.ok.injEq] at h
        subst h
        obtain ⟨k, hk⟩ : ∃ k : Nat, idxF (cnamed sMain) cs 0 = (0 + k : Nat) := ⟨(idxF (cnamed sMain) cs 0).toNat, by omega⟩
        obtain ⟨h1, h2⟩ := idxF_hit _ _ _ _ hk
        exact ⟨rfl, rfl, by show libs ≤ idxF (cnamed sMain) cs 0; omega, k, h1, by show idxF (cnamed sMain) cs 0 = (k : Int); omega, by simpa [cnamed] using h2⟩
      · cases h
    · cases h
theorem mainR_err {cs : List Cod} {libs : Int} {e : Int × Bool × Int} (h : mainR cs libs = .error e) : e = (0, true, 55) := by
  unfold mainR at h
  split at h
  · simpa using h.symm
  · split at h
    · split at h
      · cases h
      · simpa using h.symm
    · simpa using h.symm
/-- An image. -/
theorem linkR_ok {a b : Tree} {m : Img} (h : linkR a b = .ok m) : m.codes = (fns a).map lowerT ++ (fns b).map lowerT ∧ m.libs = (fns a).length ∧ Dist m.codes ∧ (∀ c ∈ m.codes, ∀ i ∈ c.list, wantI m.codes m.libs i = 0) ∧
    m.libs ≤ m.main ∧ ∃ (k : Nat) (hk : k < m.codes.length), m.main = k ∧ (m.codes[k]).name = sMain := by
  unfold linkR at h
  split at h
  · cases h
  · rename_i cs hcs
    split at h
    · cases h
    · rename_i ds hds
      split at h
      · cases h
      · rename_i hck
        obtain ⟨h1, h2⟩ := addR_ok (fun f hf => (fns_fn hf).1) List.Pairwise.nil hcs
        obtain ⟨h3, h4⟩ := addR_ok (fun f hf => (fns_fn hf).1) h2 hds
        have hcl : cs.length = (fns a).length := by rw [h1]; simp
        obtain ⟨e1, e2, e3, k, hk, e4, e5⟩ := mainR_ok h
        have hck' := checkR_ok hck
        refine ⟨by rw [e1, h3, h1]; simp, by rw [e2, hcl], e1 ▸ h4, by rw [e1, e2]; exact hck', by rw [e2]; exact e3, ?_⟩
        subst e1
        exact ⟨k, hk, e4, e5⟩

mutual
/-- Does a function or a statement stand at this place? -/
def standsT (p : Int) : Tree → Bool
  | .node k _ _ q ks => (q == p && (k == 6 || (decide (10 ≤ k) && decide (k ≤ 20)))) || standsL p ks
def standsL (p : Int) : List Tree → Bool
  | [] => false
  | x :: xs => standsT p x || standsL p xs
end
theorem standsL_mem {p : Int} : ∀ {ks : List Tree} {x : Tree}, x ∈ ks → standsT p x = true → standsL p ks = true
  | y :: ks, x, hx, h => by
    unfold standsL
    rcases List.mem_cons.1 hx with e | hx
    · subst e; simp [h]
    · simp [standsL_mem hx h]
theorem standsT_kids {p : Int} {n : Tree} (h : standsL p n.kids = true) : standsT p n = true := by
  cases n
  unfold standsT
  simp only [Tree.kids] at h
  simp [h]
/-- Calls stand at statements. -/
def Goes (i : Inst) : Prop := i.op = 12 ∨ i.op = 13
theorem brI_goes {p : Int} {t : Bs} {a b : Trm} {to : Int} : ¬ Goes (brI p t a b to) := by unfold Goes brI; simp
theorem jmI_goes {p to : Int} : ¬ Goes (jmI p to) := by unfold Goes jmI; simp
theorem rtI_goes {p : Int} : ¬ Goes (rtI p) := by unfold Goes rtI; simp
theorem setI_at (n e : Tree) : (setI n e).at_ = n.pos := by unfold setI; repeat' split <;> try rfl
theorem plainI_at (n : Tree) : (plainI n).at_ = n.pos := by unfold plainI; repeat' split <;> try rfl
theorem plainI_goes {n : Tree} (h : Goes (plainI n)) : n.kind = 20 ∨ n.kind = 19 := by
  unfold plainI at h
  split at h
  · simp [Goes] at h
  split at h
  · simp [Goes] at h
  split at h
  · simp [Goes] at h
  split at h
  · simp [Goes] at h
  split at h
  · exact .inl (by assumption)
  split at h
  · exact .inr (by assumption)
  split at h
  · simp [Goes] at h
  · simp [Goes] at h
mutual
theorem stmtC_stands (b : Nat) : ∀ (n : Tree) (i : Inst), i ∈ stmtC b n → Goes i → standsT i.at_ n = true
  | .node k t v p ks, i, hi, hg => by
    unfold stmtC at hi
    split at hi
    · rename_i hk
      rw [List.mem_singleton] at hi
      subst hi
      rw [setI_at, hk]
      unfold standsT
      simp [Tree.pos]
    · split at hi
      · unfold standsT
        rw [branchC_stands b k t p ks i hi hg]; simp
      · rw [List.mem_singleton] at hi
        subst hi
        have hk := plainI_goes hg
        rw [plainI_at]
        unfold standsT
        simp only [Tree.kind, Tree.pos] at hk ⊢
        rcases hk with rfl | rfl <;> simp
theorem stmtsC_stands (b : Nat) : ∀ (ks : List Tree) (i : Inst), i ∈ stmtsC b ks → Goes i → standsL i.at_ ks = true
  | [], i, hi, hg => by simp [stmtsC] at hi
  | x :: xs, i, hi, hg => by
    unfold stmtsC at hi
    unfold standsL
    rcases List.mem_append.1 hi with hi | hi
    · rw [stmtC_stands b x i hi hg]; simp
    · rw [stmtsC_stands _ xs i hi hg]; simp
theorem branchC_stands (b : Nat) (k : Int) (t : Bs) (p : Int) : ∀ (ks : List Tree) (i : Inst), i ∈ branchC b k t p ks → Goes i → standsL i.at_ ks = true
  | [], i, hi, hg => by simp [branchC] at hi
  | [_], i, hi, hg => by simp [branchC] at hi
  | [_, _], i, hi, hg => by simp [branchC] at hi
  | x :: y :: z :: r, i, hi, hg => by
    unfold branchC at hi
    rcases List.mem_cons.1 hi with hi | hi
    · subst hi; exact absurd hg brI_goes
    · rcases List.mem_append.1 hi with hi | hi
      · simp [standsL, blockC_stands _ z i hi hg]
      · simp [standsL, elseC_stands _ b k p r i hi hg]
theorem elseC_stands (j b : Nat) (k p : Int) : ∀ (ks : List Tree) (i : Inst), i ∈ elseC j b k p ks → Goes i → standsL i.at_ ks = true
  | [], i, hi, hg => by
    simp only [elseC, List.mem_singleton] at hi
    subst hi; exact absurd hg jmI_goes
  | w :: r, i, hi, hg => by
    unfold elseC at hi
    split at hi
    · rcases List.mem_cons.1 hi with hi | hi
      · subst hi; exact absurd hg jmI_goes
      · simp [standsL, blockC_stands _ w i hi hg]
    · simp only [List.mem_singleton] at hi
      subst hi; exact absurd hg jmI_goes
theorem blockC_stands (b : Nat) : ∀ (n : Tree) (i : Inst), i ∈ blockC b n → Goes i → standsT i.at_ n = true
  | .node k t v p ks, i, hi, hg => by
    unfold blockC at hi
    exact standsT_kids (n := .node k t v p ks) (stmtsC_stands b ks i hi hg)
end
theorem bodyC_stands : ∀ (ks : List Tree) (b : Nat) (i : Inst), i ∈ bodyC b ks → Goes i → standsL i.at_ ks = true
  | [], b, i, hi, hg => by simp [bodyC] at hi
  | x :: xs, b, i, hi, hg => by
    unfold bodyC at hi
    unfold standsL
    split at hi
    · rcases List.mem_append.1 hi with hi | hi
      · rw [blockC_stands b x i hi hg]; simp
      · rcases List.mem_cons.1 hi with hi | hi
        · subst hi; exact absurd hg rtI_goes
        · rw [bodyC_stands xs _ i hi hg]; simp
    · rw [bodyC_stands xs _ i hi hg]; simp
/-- The fault of a link, and where it stands. -/
theorem linkR_err {a b : Tree} {p c : Int} {w : Bool} (h : linkR a b = .error (p, w, c)) : c ≠ 0 ∧ (c = 55 → p = 0 ∧ w = true) ∧ (c ≠ 55 → standsT p (if w then b else a) = true) := by
  have hfn : ∀ {n f : Tree}, f ∈ fns n → standsT f.pos n = true := fun {n f} hf => by
    obtain ⟨h1, h2⟩ := fns_fn hf
    refine standsT_kids (standsL_mem h2 ?_)
    cases f
    simp only [isFn, Tree.kind] at h1
    unfold standsT
    simp [Tree.pos, h1]
  have hlow : ∀ {n f : Tree} {i : Inst}, f ∈ fns n → i ∈ (lowerT f).list → Goes i → standsT i.at_ n = true := fun {n f i} hf hi hg => by
    obtain ⟨h1, h2⟩ := fns_fn hf
    rw [(lowerT_fn h1).2] at hi
    exact standsT_kids (standsL_mem h2 (standsT_kids (bodyC_stands _ _ i hi hg)))
  unfold linkR at h
  split at h
  · rename_i e he
    simp only [Except.error.injEq] at h
    subst h
    obtain ⟨rfl, rfl, f, hf, rfl⟩ := addR_err he
    exact ⟨by decide, fun e => absurd e (by decide), fun _ => hfn hf⟩
  · rename_i cs hcs
    obtain ⟨h1, h2⟩ := addR_ok (fun f hf => (fns_fn hf).1) List.Pairwise.nil hcs
    split at h
    · rename_i e he
      simp only [Except.error.injEq] at h
      subst h
      obtain ⟨rfl, rfl, f, hf, rfl⟩ := addR_err he
      exact ⟨by decide, fun e => absurd e (by decide), fun _ => hfn hf⟩
    · rename_i ds hds
      obtain ⟨h3, h4⟩ := addR_ok (fun f hf => (fns_fn hf).1) h2 hds
      split at h
      · rename_i e he
        simp only [Except.error.injEq] at h
        subst h
        obtain ⟨k, hk, rfl, i, hi, rfl, hw, hc⟩ := checkR_err he
        have hg : Goes i := wantI_op (hw ▸ hc)
        refine ⟨hc, fun e => ?_, fun _ => ?_⟩
        · rw [e] at hw
          rcases wantI_cases (cs := ds) (libs := cs.length) (i := i) with q | q | q <;> rw [q] at hw <;> exact absurd hw (by decide)
        · have hcl : cs.length = (fns a).length := by rw [h1]; simp
          subst h3 h1
          simp only [List.nil_append, List.length_map, Nat.zero_add] at hk hi ⊢
          by_cases hka : k < (fns a).length
          · rw [if_neg (by simp; omega)]
            rw [List.getElem_append_left (by simpa using hka), List.getElem_map] at hi
            exact hlow (List.getElem_mem hka) hi hg
          · rw [if_pos (by simp; omega)]
            rw [List.getElem_append_right (by simp; omega), List.getElem_map] at hi
            exact hlow (List.getElem_mem _) hi hg
      · have := mainR_err h
        simp only [Prod.mk.injEq] at this
        obtain ⟨rfl, rfl, rfl⟩ := this
        exact ⟨by decide, fun _ => ⟨rfl, rfl⟩, fun e => absurd rfl e⟩
end Lg
