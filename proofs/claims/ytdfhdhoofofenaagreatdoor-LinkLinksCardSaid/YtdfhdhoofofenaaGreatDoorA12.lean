import Derived.Test.YtdfhdhoofofenaaGreatDoorA11
set_option linter.unusedSimpArgs false
set_option linter.unusedVariables false
namespace Lx
open Go
theorem qkm {P : Program} (w : World) (t ty e : TypeId) (i : TypeInfo) (ht : P.underlying t = some (.slice e)) (hi : P.info? e = some i) (b : Option Addr) (n cap : Nat) (h : n ≤ cap) (b' : Option Addr) (cap' : Nat) :
  (Builtin.append_ #[t, t] ty #[.slice b n cap, .slice b' 0 cap']).run P w = .ok (.slice b n cap) w := by
 have hf : (Builtin.firstCells i.size 0 (.slice b' 0 cap')).run P w = .ok #[] w := by
  cases b' <;> simp [Builtin.firstCells, loadCells, loadCellsFrom]
 cases b with
 | none => simp [Builtin.append_, run_underlying ht, Go.sizeOf, typeInfo, hi, Builtin.lenOf, h, hf]
 | some b => simp [Builtin.append_, run_underlying ht, Go.sizeOf, typeInfo, hi, Builtin.lenOf, h, hf, storeCells]
theorem getElem?_lt_of {α : Type} {l : List α} {i : Nat} {x : α} (h : l[i]? = some x) : i < l.length := (List.getElem?_eq_some_iff.1 h).1
theorem zwg {g : Gh} {bx : Bx} {ar : Ar} {w : World} (hw : Wd g bx ar w) {sz : Nat} {us : List Value} {b off : Nat} (hsz : ∀ (i : Nat) (u : Value), us[i]? = some u → u.cells.size = sz)
  (hc : ∀ (i : Nat) (u : Value), us[i]? = some u → ∀ (j : Nat) (c : Value), u.cells[j]? = some c → g.Φ b (off + i * sz + j) = some c) (h0 : 0 < sz) :
  (flat us).length = us.length * sz ∧ (∀ j v, (flat us)[j]? = some v → w.cell? ((⟨b, off, none⟩ : Addr).add j) = some v) ∧ (∀ u ∈ us, u.cells.size = sz ∧ ∀ v ∈ u.cells, v.oneCell' = true) := by
 have hmem : ∀ u ∈ us, u.cells.size = sz := fun u hu => by
  obtain ⟨i, hi⟩ := List.getElem?_of_mem hu
  exact hsz i u hi
 have hfl := qjd hmem
 refine ⟨hfl, fun j v hv => ?_, fun u hu => ⟨hmem u hu, fun v hv => ?_⟩⟩
 · have hj := getElem?_lt_of hv
   rw [hfl] at hj
   have hi : j / sz < us.length := Nat.div_lt_of_lt_mul (by rw [Nat.mul_comm]; exact hj)
   have hu := List.getElem?_eq_getElem hi
   have hm : j % sz < us[j / sz].cells.size := by rw [hmem _ (List.getElem_mem hi)]; exact Nat.mod_lt _ h0
   have h1 := qwc hmem hu (Array.getElem?_eq_getElem hm)
   rw [Nat.mul_comm, Nat.div_add_mod] at h1
   rw [h1] at hv
   simp only [Option.some.injEq] at hv
   subst hv
   have h2 := hc _ _ hu _ _ (Array.getElem?_eq_getElem hm)
   rw [Nat.add_assoc, Nat.mul_comm, Nat.div_add_mod] at h2
   rw [Addr.add_none]
   exact (hw.fix _ _ _ h2).1
 · obtain ⟨i, hi⟩ := List.getElem?_of_mem hu
   obtain ⟨j, hj⟩ := Array.getElem?_of_mem hv
   exact (hw.fix _ _ _ (hc i u hi j v hj)).2
theorem pre_cells {c : Array Value} {fs us : List Value} {n m : Nat} (hn : fs.length = n) (ht : c.toList.take n = fs) : ∀ o, o < n → (fs ++ us ++ c.toList.drop m).toArray[o]? = c[o]? := by
 intro o ho
 have h1 : o < fs.length := by omega
 rw [List.getElem?_toArray, List.append_assoc, List.getElem?_append_left h1, ← ht, List.getElem?_take, if_pos ho]
 simp
section
variable {P : Program} {E : Env} {sp : FuncId → Option SpecX} {z : Bg} {g : Gh} {ds : List Deferred} {s : S} {a : Act} {w : World}
theorem R.pt' {z : Bg} {g : Gh} {ds : List Deferred} {s : S} {a : Act} {w : World} (h : R z g ds s a w) {d : Tmp} (hd : d < s.n) {x : LV} {v : Value} (hx : LRp g x v) : R z g ds { s with tm := put d x s.tm } (a.put (some d) v) w :=
 h.pt (d := some d) hd hx
theorem appK_run (ht : TOK P E.tl) (hR : R z g ds s a w) {d : Option Tmp} {t : TypeId} {x y : LV} {xv yv : Value} (hx : LRp g x xv) (hy : LRp g y yv) {K : S → Prop} (h : appK E s d t x y K) (ty : TypeId) :
  ∃ v g' s' w', (Builtin.append_ #[t, t] ty #[xv, yv]).run P w = .ok v w' ∧ K s' ∧ R z g' ds s' (a.put d v) w' := by
 obtain ⟨ti, hti, h⟩ := h
 split at h
 · rename_i e d hd
   obtain ⟨te, hte, h0, hty, hdn, h⟩ := h
   obtain ⟨info, d0, i1, i2, i3, i4, i5, hd0, i6⟩ := ht t ti (qqy hti)
   obtain ⟨ie, d1, j1, j2, j3, j4, j5, _, j6, _⟩ := ht e te (qqy hte)
   obtain rfl := zxa (hd0.trans hd)
   split at h
   · rename_i yd
     obtain ⟨⟨ys, fy⟩, hys, h⟩ := h
     simp only at h
     have hsrc : (ys = [] ∧ ∃ b cap, yv = .slice b 0 cap) ∨ (ys ≠ [] ∧ ∃ us b cap, yv = .slice (some b) ys.length cap ∧ Rps g.Φ ys us ∧ (flat us).length = ys.length * te.size ∧
       (∀ j v, (flat us)[j]? = some v → w.cell? (b.add j) = some v) ∧ (∀ u ∈ us, u.cells.size = te.size ∧ ∀ v ∈ u.cells, v.oneCell' = true)) := by
      rcases zqf hy.unD hys with ⟨rfl, a', cap, rfl, hf, ha⟩ | ⟨hn, us, b, off, cap, rfl, hus, hsz, hc, hcap, hf⟩
      · exact .inl ⟨rfl, _, _, rfl⟩
      · obtain ⟨h1, h2, h3⟩ := zwg hR.wd hsz hc h0
        exact .inr ⟨hn, us, _, _, rfl, hus, by rw [h1, hus.length], h2, h3⟩
     split at h
     · rename_i xd
       obtain ⟨⟨xs, fx⟩, hxs, hfull, hl, hby, hnil, hcons⟩ := h
       simp only at hfull hl hby hnil hcons
       subst hfull
       rcases hsrc with ⟨rfl, b, cap, rfl⟩ | ⟨hn, us, b, cap, rfl, hus, hfl, hcells, hones⟩
       · have hK := hnil rfl
         obtain ⟨bb, n, cc, rfl, hle⟩ : ∃ bb n cc, xv = .slice bb n cc ∧ n ≤ cc := by
          rcases zqf hx.unD hxs with ⟨rfl, a', cap', rfl, hf, ha⟩ | ⟨hn, us, b, off, cap', rfl, hus, hsz, hc, hcap, hf⟩
          · exact ⟨_, _, _, rfl, Nat.zero_le _⟩
          · exact ⟨_, _, _, rfl, hcap⟩
         exact ⟨_, g, _, w, qkm w t ty e ie i5 j1 bb n cc hle b cap, hK, hR.pt (d := some d) hdn hx⟩
       · have hK := hcons hn
         have hm : 0 < ys.length := List.length_pos_iff.2 hn
         have h63 : xs.length + ys.length ≤ maxLen := by unfold maxLen; exact hl
         have fin : ∀ (vs : List Value) (old : Nat), Rps g.Φ xs vs → (∀ u ∈ vs, u.cells.size = te.size ∧ ∀ v ∈ u.cells, v.oneCell' = true) →
           R z { g with α := upd d (w.heap.size, grownCap w (xs.length + ys.length) old e) g.α, len := upd d (some (xs ++ ys).length) g.len } ds (s.na d te.size e (xs ++ ys))
             (a.put (some d) (.slice (some ⟨w.heap.size, 0, none⟩) (xs.length + ys.length) (grownCap w (xs.length + ys.length) old e)))
             (w.drew.alloc (.cells ((flat vs).toArray ++ (flat us).toArray ++ Builtin.zeroCells te.zero.cells (grownCap w (xs.length + ys.length) old e - (xs.length + ys.length))) e)) := by
          intro vs old hvs hvo
          have hge := grownCap_ge w (xs.length + ys.length) old e
          have hcm := grownCap_le_maxLen w (xs.length + ys.length) old e h63
          have hall : ∀ u ∈ vs ++ us, u.cells.size = te.size ∧ ∀ v ∈ u.cells, v.oneCell' = true := fun u hu => by
           rcases List.mem_append.1 hu with hu | hu
           · exact hvo u hu
           · exact hones u hu
          have hlv : (flat vs).length = xs.length * te.size := by rw [qjd (fun u hu => (hvo u hu).1), hvs.length]
          have hzs : (Builtin.zeroCells te.zero.cells (grownCap w (xs.length + ys.length) old e - (xs.length + ys.length))).toList.length = (grownCap w (xs.length + ys.length) old e - (xs.length + ys.length)) * te.size := by
           rw [Array.length_toList, size_zeroCells, j6]
          have hac := qvo.flat (rest := (Builtin.zeroCells te.zero.cells (grownCap w (xs.length + ys.length) old e - (xs.length + ys.length))).toList) (cap := grownCap w (xs.length + ys.length) old e)
           (hvs.append hus) hall h0 (by
             have : Lx.flat (vs ++ us) = flat vs ++ flat us := by simp [flat]
             rw [this, List.length_append, List.length_append, hlv, hfl, hzs, ← Nat.add_mul, ← Nat.add_mul]
             congr 1; omega) hcm
          have := naR (d := d) hR hdn hty (New.drew w (.cells _ e (0, 0))) hac
          rw [List.length_append] at this ⊢
          have e1 : Lx.flat (vs ++ us) ++ (Builtin.zeroCells te.zero.cells (grownCap w (xs.length + ys.length) old e - (xs.length + ys.length))).toList =
            flat vs ++ flat us ++ (Builtin.zeroCells te.zero.cells (grownCap w (xs.length + ys.length) old e - (xs.length + ys.length))).toList := by simp [flat]
          rw [e1] at this
          have e2 : (flat vs ++ flat us ++ (Builtin.zeroCells te.zero.cells (grownCap w (xs.length + ys.length) old e - (xs.length + ys.length))).toList).toArray =
            (flat vs).toArray ++ (flat us).toArray ++ Builtin.zeroCells te.zero.cells (grownCap w (xs.length + ys.length) old e - (xs.length + ys.length)) := by apply Array.ext'; simp
          rw [e2] at this
          exact this
         rcases zqf hx.unD hxs with ⟨rfl, a', cap', rfl, hf, ha⟩ | ⟨hnx, vs, b', off, cap', rfl, hvs, hsz, hc, hcap, hf⟩
         · have := hf rfl
           subst this
           cases a' with
           | none =>
             have hr := run_append_nil (P := P) w t ty e ie te.zero i5 j1 j4 b ys.length cap (flat us) (by rw [hfl, j2]) hcells hm (by simp only [List.length_nil, Nat.zero_add] at hl; omega) (by rw [j3]; simp only [List.length_nil, Nat.zero_add] at hby; omega)
             have hfin := fin [] 0 .nil (fun u hu => by cases hu)
             simp only [List.length_nil, Nat.zero_add, flat, List.flatMap_nil, Array.empty_append] at hfin
             exact ⟨_, _, _, _, hr, hK, by simpa [flat] using hfin⟩
           | some a' =>
             have hr := run_append_grow (P := P) w t ty e ie te.zero i5 j1 j4 a' 0 0 [] (by simp) (fun j v hv => by simp at hv) b ys.length cap (flat us) (by rw [hfl, j2]) hcells (by omega) (by simp only [List.length_nil] at hl; omega)
              (growslice_fits (by omega) (by rw [j3]; simpa using hby))
             have hfin := fin [] 0 .nil (fun u hu => by cases hu)
             exact ⟨_, _, _, _, hr, hK, by simpa [flat] using hfin⟩
         · have := hf rfl
           subst this
           obtain ⟨h1, h2, h3⟩ := zwg hR.wd hsz hc h0
           have hr := run_append_grow (P := P) w t ty e ie te.zero i5 j1 j4 ⟨b', off, none⟩ xs.length xs.length (flat vs) (by rw [h1, hvs.length, j2]) h2 b ys.length cap (flat us) (by rw [hfl, j2]) hcells (by omega) (by omega)
            (growslice_fits (by omega) (by rw [j3]; exact hby))
           exact ⟨_, _, _, _, hr, hK, fin vs xs.length hvs h3⟩
     · rename_i r sz n
       obtain ⟨⟨sz', ty', xs⟩, har, h1, h2, h3, h4, hl, hby, hK⟩ := h
       simp only at h1 h2 h3 h4 hK
       subst h1 h3 h4
       subst h2
       obtain ⟨vs, c, q1, q2, q3, q4, q5, q6, q7⟩ := hR.wd.arr r te.size ty' xs har
       have hlen := hR.wd.len r
       rw [har] at hlen
       cases hx with
       | os hone hxc =>
         have hxv := (hxc _ hlen).2 rfl
         subst hxv
         have hvmem : ∀ u ∈ vs, u.cells.size = te.size ∧ ∀ v ∈ u.cells, v.oneCell' = true := fun u hu => by
          obtain ⟨i, hi⟩ := List.getElem?_of_mem hu
          exact ⟨(q7 i u hi).1, (q7 i u hi).2.1⟩
         have hlv : (flat vs).length = xs.length * te.size := by rw [qjd (fun u hu => (hvmem u hu).1), q1.length]
         rcases hsrc with ⟨rfl, b, cap, rfl⟩ | ⟨hn, us, b, cap, rfl, hus, hfl, hcells, hones⟩
         · simp only [List.append_nil, List.length_nil, Nat.add_zero] at hK
           have hput : put r (te.size, ty', xs) s.ar = s.ar := by
            funext k
            by_cases e : k = r
            · subst e; rw [qqf, har]
            · rw [qq4 _ _ e]
           rw [hput] at hK
           exact ⟨_, g, _, w, qkm w t ty (tyo ty') ie i5 j1 _ _ _ q4 b cap, hK, hR.pt' hdn (.os rfl hxc)⟩
         · have hm : 0 < ys.length := List.length_pos_iff.2 hn
           have h63 : xs.length + ys.length ≤ maxLen := by unfold maxLen; exact hl
           have hall : ∀ u ∈ vs ++ us, u.cells.size = te.size ∧ ∀ v ∈ u.cells, v.oneCell' = true := fun u hu => by
            rcases List.mem_append.1 hu with hu | hu
            · exact hvmem u hu
            · exact hones u hu
           have happ : Lx.flat (vs ++ us) = flat vs ++ flat us := by simp [flat]
           by_cases hroom : xs.length + ys.length ≤ (g.α r).2
           · have htake : c.toList.take (xs.length * te.size) = flat vs := by
              apply List.ext_getElem?
              intro k
              rw [List.getElem?_take]
              split
              · rename_i hk
                have hi : k / te.size < vs.length := by rw [← q1.length]; exact Nat.div_lt_of_lt_mul (by rw [Nat.mul_comm]; exact hk)
                have hu := List.getElem?_eq_getElem hi
                have hmm : k % te.size < vs[k / te.size].cells.size := by rw [(hvmem _ (List.getElem_mem hi)).1]; exact Nat.mod_lt _ h0
                have g1 := qwc (fun u hu => (hvmem u hu).1) hu (Array.getElem?_eq_getElem hmm)
                have g2 := (q7 _ _ hu).2.2 _ _ (Array.getElem?_eq_getElem hmm)
                rw [Nat.mul_comm, Nat.div_add_mod] at g1 g2
                rw [g1]; simpa using g2
              · rename_i hk
                rw [List.getElem?_eq_none (by omega)]
             have hfit : xs.length * te.size + (flat us).length ≤ c.size := by rw [hfl, q3, ← Nat.add_mul]; exact Nat.mul_le_mul_right _ hroom
             have hr := run_append_room (P := P) w t ty (tyo ty') ie i5 j1 (g.α r).1 xs.length (g.α r).2 c q2 b ys.length cap (flat us) (by rw [hfl, j2]) hcells (zkp (fun u hu => (hones u hu).2)) hroom (by rw [j2]; exact hfit)
             rw [j2, htake] at hr
             have hset := Set1.setRow w (g.α r).1 c (flat vs ++ flat us ++ c.toList.drop (xs.length * te.size + (flat us).length)).toArray (tyo ty') (0, 0) q2
             have hac := qvo.flat (rest := c.toList.drop (xs.length * te.size + (flat us).length)) (cap := (g.α r).2) (q1.append hus) hall h0 (by
              have hcl : c.toList.length = c.size := by simp
              rw [happ, List.length_append, List.length_append, List.length_drop, hlv, hcl, ← q3]
              omega) q6
             rw [happ] at hac
             obtain ⟨hl2, hw2⟩ := hR.rw.setArr (xs' := xs ++ ys) har hset (by simp) hac q2 (fun _ => pre_cells (by rw [hlv]) htake)
             have hR2 := hR.turn hl2 hw2
             refine ⟨_, _, _, _, hr, hK, hR2.pt' hdn (.os rfl fun m hm => ?_)⟩
             simp only [qzo, Option.some.injEq] at hm
             exact ⟨by rw [← hm]; simp, fun _ => rfl⟩
           · have hr := run_append_grow (P := P) w t ty (tyo ty') ie te.zero i5 j1 j4 ⟨(g.α r).1, 0, none⟩ xs.length (g.α r).2 (flat vs) (by rw [hlv, j2]) (fun j v hv => by
               rw [Addr.add_none, Nat.zero_add]
               have hj := getElem?_lt_of hv
               rw [hlv] at hj
               have hi : j / te.size < vs.length := by rw [← q1.length]; exact Nat.div_lt_of_lt_mul (by rw [Nat.mul_comm]; exact hj)
               have hu := List.getElem?_eq_getElem hi
               have hmm : j % te.size < vs[j / te.size].cells.size := by rw [(hvmem _ (List.getElem_mem hi)).1]; exact Nat.mod_lt _ h0
               have g1 := qwc (fun u hu => (hvmem u hu).1) hu (Array.getElem?_eq_getElem hmm)
               have g2 := (q7 _ _ hu).2.2 _ _ (Array.getElem?_eq_getElem hmm)
               rw [Nat.mul_comm, Nat.div_add_mod] at g1 g2
               rw [hv] at g1
               simp only [World.cell?, q2]
               simp only [Option.isSome_none, Bool.false_eq_true, if_false]
               rw [g2, g1]) b ys.length cap (flat us) (by rw [hfl, j2]) hcells (by omega) (by omega) (growslice_fits (by omega) (by rw [j3]; exact hby))
             have hge := grownCap_ge w (xs.length + ys.length) (g.α r).2 (tyo ty')
             have hcm := grownCap_le_maxLen w (xs.length + ys.length) (g.α r).2 (tyo ty') h63
             have hzs : (Builtin.zeroCells te.zero.cells (grownCap w (xs.length + ys.length) (g.α r).2 (tyo ty') - (xs.length + ys.length))).toList.length = (grownCap w (xs.length + ys.length) (g.α r).2 (tyo ty') - (xs.length + ys.length)) * te.size := by
              rw [Array.length_toList, size_zeroCells, j6]
             have hac := qvo.flat (rest := (Builtin.zeroCells te.zero.cells (grownCap w (xs.length + ys.length) (g.α r).2 (tyo ty') - (xs.length + ys.length))).toList) (cap := grownCap w (xs.length + ys.length) (g.α r).2 (tyo ty'))
              (q1.append hus) hall h0 (by
                rw [happ, List.length_append, List.length_append, hlv, hfl, hzs, ← Nat.add_mul, ← Nat.add_mul]
                congr 1; omega) hcm
             rw [happ] at hac
             obtain ⟨hl2, hw2⟩ := hR.rw.regrow (xs' := xs ++ ys) har (New.drew w (.cells _ (tyo ty') (0, 0))) (by simp; exact hm) hac
             have hR2 := hR.turn hl2 hw2
             have hfin := hR2.pt' (d := d) hdn (x := .os r te.size (xs.length + ys.length)) (v := .slice (some ⟨w.heap.size, 0, none⟩) (xs.length + ys.length) (grownCap w (xs.length + ys.length) (g.α r).2 (tyo ty'))) (.os rfl fun m hm => by
              simp only [qzo, Option.some.injEq] at hm
              exact ⟨by rw [← hm]; simp, fun _ => by simp only [qzo]⟩)
             have e2 : (flat vs ++ flat us ++ (Builtin.zeroCells te.zero.cells (grownCap w (xs.length + ys.length) (g.α r).2 (tyo ty') - (xs.length + ys.length))).toList).toArray =
               (flat vs).toArray ++ (flat us).toArray ++ Builtin.zeroCells te.zero.cells (grownCap w (xs.length + ys.length) (g.α r).2 (tyo ty') - (xs.length + ys.length)) := by apply Array.ext'; simp
             rw [e2] at hfin
             exact ⟨_, _, _, _, hr, hK, hfin⟩
     · exact h.elim
   · exact h.elim
 · exact h.elim
theorem opK_run (ht : TOK P E.tl) (hzt : ZOK E.tl) (hsp : ∀ f Sp, sp f = some Sp → OKX P f Sp) (hR : R z g ds s a w) {o : Oper} {K : S → Prop} {Kp : D → S → Prop} (h : opK E sp o s K Kp)
  {next : Act → World → Prop} {Q : Exit → Act → World → Prop} (hn : ∀ g' s' a' w', K s' → R z g' ds s' a' w' → next a' w')
  (hp : ∀ g' d v s' w', Kp d s' → Rp g'.Φ d v → R z g' ds s' a w' → Q (.panic [{ v := v, recovered := false }]) a w') : o.wp P a w next Q := by
 have val : ∀ (h : valK E o.op s fun x => dOk s o.dst ∧ K (s.pt o.dst x)), o.wp P a w next Q := by
  intro h
  obtain ⟨r, q, ⟨hd, hK⟩, hr, hrun⟩ := zxh ht hzt hR h
  unfold Oper.wp
  rw [hrun]
  exact hn _ _ _ _ hK (hR.pt hd hr)
 unfold opK at h
 split at h
 · rename_i t p x e
   obtain ⟨hd, pv, hpv, xv, hxv, h⟩ := h
   obtain ⟨g', s', w', hK, hR', hrun⟩ := storK_run ht hR (qz9 hR hpv) (qz9 hR hxv) h
   unfold Oper.wp
   have : (execOp a.eval o).run P w = .ok .skip w' := by simp [execOp, e, hrun]
   rw [this, Oper.upon_skip, hd]
   exact hn _ _ _ _ hK hR'
 · rename_i t e
   obtain ⟨i, hi, h⟩ := h
   have hz := ht.zero hi w
   have hnt := hzt t i (qqy hi)
   have hc : LRps g (vcs i.zero) i.zero.cells.toList := TOK.vcs (P := P) (tl := E.tl) g (fun vs e' => by rw [e'] at hnt; simp [zq1] at hnt)
   have := zjg hR hc h hn
   unfold Oper.wp
   have hrun : (execOp a.eval o).run P w = .ok (.value (.pointer (some ⟨w.heap.size, 0, none⟩))) (w.alloc (.cells i.zero.cells.toList.toArray t)) := by
    simp [execOp, e, Instr.alloc, hz, newVar, newRow]
   rw [hrun]
   exact this
 · rename_i t x e
   obtain ⟨i, hi, xv, hxv, cs, hcs, h⟩ := h
   have := zjg hR (pcs_rp (qz9 hR hxv) hcs) h hn
   unfold Oper.wp
   have hrun : (execOp a.eval o).run P w = .ok (.value (.pointer (some ⟨w.heap.size, 0, none⟩))) (w.alloc (.cells (a.eval x).cells.toList.toArray t)) := by
    simp [execOp, e, Instr.box, newVar, newRow]
   rw [hrun]
   exact this
 · rename_i t len ps e
   obtain ⟨v, g', s', w', hrun, hK, hR'⟩ := bslK_run ht hR h
   unfold Oper.wp
   have hps : (ps.map fun x => match x with | (i, x) => (i, a.eval x)) = (ps.toList.map fun p => (p.1, a.eval p.2)).toArray := by
    apply Array.ext'; simp
   have hrun' : (execOp a.eval o).run P w = .ok (.value v) w' := by
    simp only [execOp, e, Sem.run_bind]
    rw [hps, hrun]
    rfl
   rw [hrun']
   exact hn _ _ _ _ hK hR'
 · rename_i args tys e
   split at h
   · rename_i x y t t' hargs htys
     obtain ⟨rfl, xv, hxv, yv, hyv, h⟩ := h
     obtain rfl : args = #[x, y] := by apply Array.ext'; simpa using hargs
     obtain rfl : tys = #[t, t] := by apply Array.ext'; simpa using htys
     obtain ⟨v, g', s', w', hrun, hK, hR'⟩ := appK_run ht hR (qz9 hR hxv) (qz9 hR hyv) h o.type
     unfold Oper.wp
     have hrun' : (execOp a.eval o).run P w = .ok (.value v) w' := by
      simp [execOp, e, resolve, invoke, builtin, hrun]
     rw [hrun']
     exact hn _ _ _ _ hK hR'
   · exact h.elim
 · rename_i f args tys e
   obtain ⟨fv, hfv, as, has, h⟩ := h
   obtain ⟨_, _, h3⟩ := qw0 hR has
   refine callK_run hsp hR e (qz9 hR hfv) (as := as.map (·.2)) ?_ h hn hp
   simpa [List.map_map, Function.comp_def] using h3
 · rename_i x e
   obtain ⟨xv, hxv, h⟩ := h
   have hv := qz9 hR hxv
   split at h
   · have := hv.unD
     cases hx : a.eval x <;> rw [hx] at this <;> cases this
     rename_i t y u hy
     unfold Oper.wp
     have hrun : (execOp a.eval o).run P w = .halt (.panic (.iface t u)) w := by
      simp [execOp, e, hx, Instr.panic]
     rw [hrun]
     exact hp _ _ _ _ _ h (.ifc t hy) hR
   · exact h.elim
 · rename_i t e
   obtain ⟨q, g', s', w', hK, hR', hrun⟩ := mkmK_run (P := P) hR h t
   unfold Oper.wp
   have hrun' : (execOp a.eval o).run P w = .ok (.value q) w' := by simp [execOp, e, hrun]
   rw [hrun']
   exact hn _ _ _ _ hK hR'
 · rename_i t m k x e
   obtain ⟨hd, mv, hmv, kv, hkv, xv, hxv, h⟩ := h
   obtain ⟨s', w', hK, hR', hrun⟩ := insK_run ht hR (qz9 hR hmv) (qz9 hR hkv) (qz9 hR hxv) h
   unfold Oper.wp
   have hrun' : (execOp a.eval o).run P w = .ok .skip w' := by simp [execOp, e, hrun]
   rw [hrun', Oper.upon_skip, hd]
   exact hn _ _ _ _ hK hR'
 · rename_i t m k x e
   obtain ⟨hd, mv, hmv, kv, hkv, xv, hxv, h⟩ := h
   obtain ⟨s', w', hK, hR', hrun⟩ := insK_run ht hR (qz9 hR hmv) (qz9 hR hkv) (qz9 hR hxv) h
   unfold Oper.wp
   have hrun' : (execOp a.eval o).run P w = .ok .skip w' := by simp [execOp, e, hrun]
   rw [hrun', Oper.upon_skip, hd]
   exact hn _ _ _ _ hK hR'
 · rename_i t x e
   obtain ⟨xv, hxv, h⟩ := h
   obtain ⟨q, g', s', w', hK, hR', hrun⟩ := rngK_run ht hR (qz9 hR hxv) h
   unfold Oper.wp
   have hrun' : (execOp a.eval o).run P w = .ok (.value q) w' := by simp [execOp, e, hrun]
   rw [hrun']
   exact hn _ _ _ _ hK hR'
 · rename_i it e
   obtain ⟨xv, hxv, h⟩ := h
   obtain ⟨q, y, s', w', hK, hd, hy, hR', hrun⟩ := nxtK_run (P := P) hR (qz9 hR hxv) h o.type
   unfold Oper.wp
   have hrun' : (execOp a.eval o).run P w = .ok (.value q) w' := by simp [execOp, e, hrun]
   rw [hrun']
   exact hn _ _ _ _ hK (hR'.pt hd hy)
 · rename_i it e
   obtain ⟨xv, hxv, h⟩ := h
   obtain ⟨q, y, hK, hd, hy, hrun⟩ := entK_run (P := P) hR (qz9 hR hxv) h
   unfold Oper.wp
   have hrun' : (execOp a.eval o).run P w = .ok (.value q) w := by simp [execOp, e, hrun]
   rw [hrun']
   exact hn _ _ _ _ hK (hR.pt hd hy)
 · rename_i t m k ok e
   obtain ⟨mv, hmv, kv, hkv, h⟩ := h
   obtain ⟨q, y, ⟨hd, hK⟩, hy, hrun⟩ := lukK_run ht hR (qz9 hR hmv) (qz9 hR hkv) h
   unfold Oper.wp
   have hrun' : (execOp a.eval o).run P w = .ok (.value q) w := by simp [execOp, e, hrun]
   rw [hrun']
   exact hn _ _ _ _ hK (hR.pt hd hy)
 · exact val h
end
end Lx
