import Derived.Test.YtdfhdhoofofenaaGreatDoorA08
set_option linter.unusedSimpArgs false
set_option linter.unusedVariables false
namespace Lx
open Go
theorem zj4 {f : Nat → Option LV} {d k : Nat} {x y : LV} (h : put d x f k = some y) : (k = d ∧ y = x) ∨ (k ≠ d ∧ f k = some y) := by
 by_cases e : k = d
 · subst e; rw [qqf] at h; exact .inl ⟨rfl, by simpa using h.symm⟩
 · rw [qq4 _ _ e] at h; exact .inr ⟨e, h⟩
theorem R.pt {z : Bg} {g : Gh} {ds : List Deferred} {s : S} {a : Act} {w : World} (h : R z g ds s a w) {d : Option Tmp} (hd : dOk s d) {x : LV} {v : Value} (hx : LRp g x v) : R z g ds (s.pt d x) (a.put d v) w := by
 cases d with
 | none => exact h
 | some d =>
   have hd' : d < a.tmps.size := by rw [h.size]; exact hd
   refine ⟨by simp [Act.put, S.pt, h.size], h.defers, fun k y hk => ?_, h.rw⟩
   rcases zj4 hk with ⟨rfl, rfl⟩ | ⟨e, hk'⟩
   · exact ⟨hd, by simpa [Act.put, Array.getD, hd'] using hx⟩
   · obtain ⟨h1, h2⟩ := h.tm k y hk'
     refine ⟨h1, ?_⟩
     have : (a.put (some d) v).tmps.getD k undef = a.tmps.getD k undef := by
      simp only [Act.put]
      rw [Array.getD_eq_getD_getElem?, Array.getD_eq_getD_getElem?, Array.getElem?_setIfInBounds, if_neg (fun e' => e e'.symm)]
     rw [this]; exact h2
section
variable {P : Program} {E : Env} {sp : FuncId → Option SpecX} {z : Bg} {g : Gh} {ds : List Deferred} {s : S} {a : Act} {w : World}
theorem callK_run (hsp : ∀ f Sp, sp f = some Sp → OKX P f Sp) (hR : R z g ds s a w) {o : Oper} {fo : Operand} {args : Array Operand} {tys : Array TypeId} (ho : o.op = .call { callee := .value fo, args := args, argTypes := tys })
  {fv : LV} (hf : LRp g fv (a.eval fo)) {as : List LV} (has : LRps g as (args.toList.map a.eval)) {K : S → Prop} {Kp : D → S → Prop} (h : callK sp s o.dst fv as K Kp) {next : Act → World → Prop} {Q : Exit → Act → World → Prop}
  (hn : ∀ g' s' a' w', K s' → R z g' ds s' a' w' → next a' w')
  (hp : ∀ g' d v s' w', Kp d s' → Rp g'.Φ d v → R z g' ds s' a w' → Q (.panic [{ v := v, recovered := false }]) a w') : o.wp P a w next Q := by
 unfold callK at h
 split at h
 · rename_i f first cap
   obtain ⟨X, hS, h⟩ := h
   cases hfv : a.eval fo <;> rw [hfv] at hf <;> cases hf
   rename_i us vs hus hvs
   cases X with
   | b Sp =>
     have hok : OK3 P f Sp := hsp f _ hS
     have h : callB Sp s o.dst (first ++ as ++ cap) K Kp := h
     obtain ⟨g1, bs, s1, ⟨hnd, hm2, hm1, h1⟩, hR1, hl1, hbs, hs1⟩ := lndA_run hR ((hus.append has).append hvs) h
     have hex : (execOp a.eval o).run P w = .ok (.enter f (us ++ args.toList.map a.eval ++ vs).toArray) w := by
      simp only [execOp, ho, resolve, Sem.run_bind, hfv, Deferred.ofValue, Sem.run_pure, Result.andThen_ok, invoke]
      rw [← hok.enters]
      congr 2
      apply Array.ext'
      simp
     unfold Oper.wp
     rw [hex, Oper.upon_enter]
     refine (hok.calls _ _ _ _ _ h1 (g1.bare3 (ddp (kyss bs)) (M3 s1.bx 0 (ddp (kyss bs)))) _ w (LRps.rens3 (g := g1) (g' := g1.bare3 (ddp (kyss bs)) (M3 s1.bx 0 (ddp (kyss bs)))) rfl (fun k hk => by simp [Gh.bare3, qj6 hk]) hbs (fun _ h => zz0 h)) (hR1.wd.fpx hnd hm2 hm1)).mono ?_
     rintro e w' ⟨g', ⟨x, v, bx', ar', rfl, ⟨hd, hn1, hn2, hK⟩, hx, hA⟩ | ⟨d, v, bx', rfl, ⟨hn0, hK⟩, hd, hA⟩⟩
     · obtain ⟨g2, eβ, eΦ, hAgr, hw⟩ := hR1.rw.call9999 hnd hA hn1 hn2
       have hR2 : R z g2 ds { n := s1.n, tm := fgM ((M3 s1.bx 0 (ddp (kyss bs))).map (·.2) ++ (N3 bx' 0 (ddp (kyss bs))).map (·.1)) s1.tm, bx := bb3 bx' 0 (ddp (kyss bs)) (fgB ((M3 s1.bx 0 (ddp (kyss bs))).map (·.2) ++ (N3 bx' 0 (ddp (kyss bs))).map (·.1)) s1.bx), ar := ab3 ar' (N3 bx' 0 (ddp (kyss bs))) (delL ((M3 s1.bx 0 (ddp (kyss bs))).map (·.2)) s1.ar) } a w' := by
        refine ⟨hR1.size, hR1.defers, fun k y hk => ?_, hw⟩
        obtain ⟨y0, h3, h4⟩ := zja hAgr hk
        exact ⟨(hR1.tm k y0 h3).1, h4 _ (hR1.tm k y0 h3).2⟩
       refine hn _ _ _ _ hK (hR2.pt (d := o.dst) (by unfold dOk at hd ⊢; exact hd) (LRp.rn (g := g') (g' := g2) (o := none) (by rw [eΦ]; exact Phi.le_refl _) (fun d e => by cases e) hx))
     · obtain ⟨g2, eβ, eΦ, hAgr, hw⟩ := hR1.rw.call9999 hnd hA (by rw [hn0]; rfl) (by rw [hn0]; rfl)
       rw [hn0] at hw hAgr
       refine hp g2 _ _ _ _ hK (by rw [eΦ]; exact hd) ⟨hR1.size, hR1.defers, fun k y hk => ?_, hw⟩
       obtain ⟨y0, h3, h4⟩ := zja hAgr hk
       exact ⟨(hR1.tm k y0 h3).1, h4 _ (hR1.tm k y0 h3).2⟩
   | a Sp =>
   have hok : OK P f Sp := hsp f _ hS
   have h : callA Sp s o.dst (first ++ as ++ cap) K Kp := h
   unfold callA at h
   obtain ⟨g1, bs, s1, ⟨hnd, hokb, h1⟩, hR1, hl1, hbs, hs1⟩ := frzA_run hR ((hus.append has).append hvs) h
   have hex : (execOp a.eval o).run P w = .ok (.enter f (us ++ args.toList.map a.eval ++ vs).toArray) w := by
    simp only [execOp, ho, resolve, Sem.run_bind, hfv, Deferred.ofValue, Sem.run_pure, Result.andThen_ok, invoke]
    rw [← hok.enters]
    congr 2
    apply Array.ext'
    simp
   unfold Oper.wp
   rw [hex, Oper.upon_enter]
   refine (hok.calls _ _ _ _ h1 (g1.bare (ddp (kyss bs))) _ w (hbs.rens (fun _ h => zz0 h)) (hR1.wd.fp hnd hokb)).mono ?_
   rintro e w' ⟨g', ⟨x, v, bx', a1, rfl, ⟨hd, hK⟩, hx, hA⟩ | ⟨d, v, bx', rfl, hK, hd, hA⟩⟩
   · obtain ⟨hl2, hw2⟩ := hR1.rw.call hA
     have hR2 := hR1.turn hl2 hw2
     have hd1 : dOk s1 o.dst := by unfold dOk at hd ⊢; rw [hs1.1]; exact hd
     simp only
     have plain : ∀ d', o.dst = d' → K (S.pt { s1 with bx := mrg (ddp (kyss bs)) bx' s1.bx } d' (rn none x)) → next (a.put o.dst v) w' := by
      rintro d' rfl hK'
      exact hn _ _ _ _ hK' (hR2.pt (d := o.dst) hd1 (LRp.rn (g := g') (g' := { g1 with Φ := g'.Φ }) (o := none) (fun _ _ _ h => h) (fun d e => by cases e) hx))
     unfold S.ret at hK
     split at hK
     · rename_i q a1 dst a0 d hdd
       obtain ⟨sz, ty, xs⟩ := a0
       obtain ⟨vs', c, q1, q2, q3, q4, q5, q6, q7⟩ := hA.wd.arr 0 sz ty xs rfl
       have hlen := hA.wd.len 0
       have hB := hA.arr _ rfl
       have hown : ∀ b, qk7 (g1.bare (ddp (kyss bs))) (fp (ddp (kyss bs)) s1.bx) b → ∃ j x, j ∈ ddp (kyss bs) ∧ s1.bx j = some x ∧ g1.β j = b := fun b ⟨j, x, h1, h2⟩ => by
        obtain ⟨_, i, h3, h4⟩ := qj8 h1
        rw [Gh.bare_β h3] at h2
        exact ⟨i, x, List.mem_of_getElem? h3, h4, h2⟩
       obtain ⟨hb3, hw3⟩ := hw2.adopt (d := d) (ty := ty) (cap := (g'.α 0).2) q2 ⟨vs', q1, q3, q4, q5, q6, q7⟩
        (fun k b hk he => by
          rcases zza hk with ⟨e1, e2⟩ | ⟨e1, e2⟩
          · have := hA.wd.injb _ 0 b _ e2 rfl
            rw [(hA.keys _ b e2).2.1, Gh.bare_β (k := k) (by rw [Nat.add_sub_cancel_left]; exact qj6 e1)] at this
            exact this he
          · rcases hB with hB | hB
            · obtain ⟨j, x, h3, h4, h5⟩ := hown _ hB
              exact e1 (by rw [← hR1.wd.inj j k _ _ h4 e2 (h5.trans he.symm)]; exact h3)
            · have := hR1.wd.lt_box e2
              have he' : g1.β k = (g'.α 0).1 := he
              omega)
        (fun r a' hr he => by
          have he' : (g1.α r).1 = (g'.α 0).1 := he
          rcases hB with hB | hB
          · obtain ⟨j, x, h3, h4, h5⟩ := hown _ hB
            exact hR1.wd.injb j r _ _ h4 hr (h5.trans he'.symm)
          · have := hR1.wd.lt_arr hr
            omega)
        (fun o' ho => hA.wd.outa 0 _ o' rfl ho)
        (hB.elim (fun hB => by obtain ⟨j, x, h3, h4, h5⟩ := hown _ hB; rw [← h5]; exact hR1.rw.mine.box j x h4) (fun hB => .inr (Nat.le_trans hR1.rw.fr.size hB)))
       refine hn { β := g1.β, Φ := g'.Φ, α := upd d ((g'.α 0).1, (g'.α 0).2) g1.α, len := upd d (some xs.length) g1.len } _ (a.put o.dst v) _ hK ?_
       have hdn : d < s1.n := by have := hd1; rw [hdd] at this; exact this
       have hda : d < a.tmps.size := by rw [hR1.size]; exact hdn
       rw [hdd]
       refine ⟨by simp [Act.put, hR1.size], hR1.defers, fun k y hk => ?_, hw3⟩
       rcases zj4 hk with ⟨rfl, rfl⟩ | ⟨e, hk'⟩
       · refine ⟨hdn, ?_⟩
         have : (a.put (some k) v).tmps.getD k undef = v := by simp [Act.put, Array.getD, hda]
         rw [this]
         refine LRp.rn (g := g') (g' := { β := g1.β, Φ := g'.Φ, α := upd k ((g'.α 0).1, (g'.α 0).2) g1.α, len := upd k (some xs.length) g1.len }) (o := some k) (fun _ _ _ h => h) (fun d' e => ?_) hx
         simp only [Option.some.injEq] at e
         subst e
         exact ⟨by simp only [qzo]; exact hlen.symm, by simp only [qzo]⟩
       · simp only [mapf, Option.map_eq_some_iff] at hk'
         obtain ⟨y₀, hy₀, rfl⟩ := hk'
         obtain ⟨h3, h4⟩ := hR2.tm k y₀ hy₀
         refine ⟨h3, ?_⟩
         have : (a.put (some d) v).tmps.getD k undef = a.tmps.getD k undef := by
          simp only [Act.put]
          rw [Array.getD_eq_getD_getElem?, Array.getD_eq_getD_getElem?, Array.getElem?_setIfInBounds, if_neg (fun e' => e e'.symm)]
         rw [this]
         exact h4.fgt hb3
     · exact plain _ rfl hK
   · obtain ⟨hl2, hw2⟩ := hR1.rw.call hA
     exact hp { g1 with Φ := g'.Φ } _ _ _ _ hK hd (hR1.turn hl2 hw2)
 · exact h.elim
theorem zjg (hR : R z g ds s a w) {d : Option Tmp} {t : TypeId} {i : TI} {cs : List LV} {vs : List Value} (hc : LRps g cs vs) {K : S → Prop} (h : boxK s d t i cs K) {next : Act → World → Prop}
  (hn : ∀ g' s' a' w', K s' → R z g' ds s' a' w' → next a' w') : next (a.put d (.pointer (some ⟨w.heap.size, 0, none⟩))) (w.alloc (.cells vs.toArray t)) := by
 unfold boxK at h
 split at h
 · rename_i d
   obtain ⟨hd, h1000, hty, hone, hK⟩ := h
   have hones : ∀ v ∈ vs, v.oneCell' = true := by
    intro v hv
    obtain ⟨i, hi⟩ := List.getElem?_of_mem hv
    obtain ⟨x, hx, hr⟩ := hc.get' hi
    exact zzx hr (List.all_eq_true.1 hone x (List.mem_of_getElem? hx))
   obtain ⟨hb, hw⟩ := hR.rw.newBox h1000 (ty := t) (by rw [qqx hty]; exact New.alloc w (.cells vs.toArray t (0, 0))) hc hones
   refine hn { g with β := upd d w.heap.size g.β } _ _ _ hK ?_
   have hda : d < a.tmps.size := by rw [hR.size]; exact hd
   refine ⟨by simp [Act.put, hR.size, S.nb], hR.defers, fun k y hk => ?_, hw⟩
   rcases zj4 hk with ⟨rfl, rfl⟩ | ⟨e, hk'⟩
   · refine ⟨hd, ?_⟩
     have : (a.put (some k) (.pointer (some ⟨w.heap.size, 0, none⟩))).tmps.getD k undef = .pointer (some ⟨w.heap.size, 0, none⟩) := by simp [Act.put, Array.getD, hda]
     rw [this]
     have := LRp.bp (g := { g with β := upd k w.heap.size g.β }) k 0
     simpa [qzo] using this
   · simp only [mapf, Option.map_eq_some_iff] at hk'
     obtain ⟨y₀, hy₀, rfl⟩ := hk'
     obtain ⟨h3, h4⟩ := hR.tm k y₀ hy₀
     refine ⟨h3, ?_⟩
     have : (a.put (some d) (.pointer (some ⟨w.heap.size, 0, none⟩))).tmps.getD k undef = a.tmps.getD k undef := by
      simp only [Act.put]
      rw [Array.getD_eq_getD_getElem?, Array.getD_eq_getD_getElem?, Array.getElem?_setIfInBounds, if_neg (fun e' => e e'.symm)]
     rw [this]
     exact h4.fgt hb
 · exact h.elim
theorem pcs_rp {x : LV} {v : Value} (hx : LRp g x v) {cs : List LV} (h : pcs x = some cs) : LRps g cs v.cells.toList := by
 unfold pcs at h
 split at h
 · rename_i es he
   simp only [Option.some.injEq] at h; subst h
   obtain ⟨vs, rfl, hvs⟩ := qv4 hx he
   simpa [Value.cells] using hvs
 · split at h
   · rename_i hone
     simp only [Option.some.injEq] at h; subst h
     rw [qkt (zzx hx hone)]
     exact .cons hx .nil
   · cases h
theorem zv8 {cs : List LV} {vs : List Value} (hc : LRps g cs vs) (h : cs.all one = true) : ∀ v ∈ vs, v.oneCell' = true := by
 intro v hv
 obtain ⟨i, hi⟩ := List.getElem?_of_mem hv
 obtain ⟨x, hx, hr⟩ := hc.get' hi
 exact zzx hr (List.all_eq_true.1 h x (List.mem_of_getElem? hx))
theorem el_cells {Φ : Nat → Nat → Option Value} {x : D} {v : Value} (h : Rp Φ x v) {sz : Nat} (he : x.el sz = true) : v.cells.size = sz ∧ ∀ u ∈ v.cells, u.oneCell' = true := by
 simp only [D.el, Bool.and_eq_true, beq_iff_eq] at he
 obtain ⟨⟨h1, h2⟩, h3⟩ := he
 have key : x.lcs = x.cs.map .d := by cases x <;> rfl
 have := D.lcs_rp (g := ⟨fun _ => 0, Φ, fun _ => (0, 0), fun _ => none⟩) h h1
 rw [key] at this
 have hl := this.length
 refine ⟨by simp at hl; omega, fun u hu => ?_⟩
 have hu' : u ∈ v.cells.toList := by simpa using hu
 refine zv8 this ?_ u hu'
 rw [List.all_map]
 exact h3
end
end Lx
