import Derived.Test.YtdfhdhoofofenaaGreatDoorA10
import Derived.MapKept
set_option linter.unusedSimpArgs false
set_option linter.unusedVariables false
namespace Lx
open Go
open Go.MapKept
theorem qxq : ∀ (vs : List Value) (b n : Nat) (e : MapEntry), (ents b vs)[n]? = some e ↔ vs[2 * n]? = some e.key ∧ vs[2 * n + 1]? = some e.val ∧ e.born = b + n
 | [], b, n, e => by simp [ents]
 | [x], b, n, e => by cases n <;> simp [ents]
 | x :: y :: vs, b, n, e => by
   cases n with
   | zero => obtain ⟨k, v, c⟩ := e; simp [ents, eq_comm]
   | succ n =>
     simp only [ents, List.getElem?_cons_succ]
     rw [qxq vs (b + 1) n e]
     simp only [show 2 * (n + 1) = 2 * n + 1 + 1 by omega, List.getElem?_cons_succ, show 2 * n + 1 + 1 + 1 = (2 * n + 1) + 1 + 1 by omega]
     constructor <;> rintro ⟨h1, h2, h3⟩ <;> exact ⟨h1, h2, by omega⟩
theorem qxo : ∀ (vs : List Value) (b : Nat), (ents b vs).length = vs.length / 2
 | [], b => by simp [ents]
 | [x], b => by simp [ents]
 | x :: y :: vs, b => by simp only [ents, List.length_cons, qxo vs (b + 1)]; omega
theorem zkt : ∀ (vs : List Value) (b : Nat) (k v : Value), vs.length % 2 = 0 → ents b (vs ++ [k, v]) = ents b vs ++ [{ key := k, val := v, born := b + vs.length / 2 }]
 | [], b, k, v, _ => by simp [ents]
 | [x], b, k, v, h => by simp at h
 | x :: y :: vs, b, k, v, h => by
   simp only [List.length_cons] at h
   have := zkt vs (b + 1) k v (by omega)
   simp only [List.cons_append, ents, this, List.length_cons]
   rw [show b + 1 + vs.length / 2 = b + (vs.length + 1 + 1) / 2 by omega]
theorem ents_set (vs : List Value) (b i : Nat) (v k : Value) (hk : vs[2 * i]? = some k) (hi : 2 * i + 1 < vs.length) : ents b (vs.set (2 * i + 1) v) = (ents b vs).modify i fun e => { e with key := k, val := v } := by
 apply List.ext_getElem?
 intro n
 rw [List.getElem?_modify]
 simp only [Option.map_eq_map]
 have hl : i < (ents b vs).length := by rw [qxo]; omega
 by_cases e : i = n
 · subst e
   simp only [if_true]
   obtain ⟨en, hen⟩ : ∃ en, (ents b vs)[i]? = some en := ⟨_, List.getElem?_eq_getElem hl⟩
   rw [hen, Option.map_some]
   obtain ⟨h1, h2, h3⟩ := (qxq vs b i en).1 hen
   refine (qxq _ b i _).2 ⟨?_, ?_, h3⟩
   · rw [List.getElem?_set_ne (by omega)]; exact hk
   · rw [List.getElem?_set_self (by omega)]
 · simp only [if_neg e]
   cases hn : (ents b vs)[n]? with
   | none =>
     simp only [Option.map_none]
     rw [List.getElem?_eq_none_iff, qxo] at hn ⊢
     simpa using hn
   | some en =>
     obtain ⟨h1, h2, h3⟩ := (qxq vs b n en).1 hn
     simp only [Option.map_some]
     refine (qxq _ b n _).2 ⟨?_, ?_, h3⟩
     · rw [List.getElem?_set_ne (by omega)]; exact h1
     · rw [List.getElem?_set_ne (by omega)]; exact h2
theorem zx4 {i : TI} {d : TypeDesc} (hd : dk d = i.desc) {Φ : Nat → Nat → Option Value} {k : D} {v : Value} (hk : kof i k = true) (h : Rp Φ k v) : IsKey d v := by
 unfold kof at hk
 split at hk
 · split at hk
   · rename_i k' e
     obtain rfl := dk_int (hd.trans e)
     cases h
     simpa [IsKey] using hk
   · cases hk
 · split at hk
   · rename_i e
     obtain rfl := zq9 (hd.trans e)
     cases h
     trivial
   · cases hk
 · cases hk
theorem keq_iff {Φ : Nat → Nat → Option Value} {i : TI} {k k' : D} {v v' : Value} (h1 : kof i k = true) (h2 : kof i k' = true) (h : Rp Φ k v) (h' : Rp Φ k' v') : (keq k k' = true ↔ v' = v) := by
 unfold kof at h1 h2
 cases k <;> simp only [Bool.false_eq_true] at h1 <;> cases k' <;> simp only [Bool.false_eq_true] at h2 <;> cases h <;> cases h' <;> simp only [keq]
 · simp only [Bool.and_eq_true, decide_eq_true_eq, beq_iff_eq, Value.int.injEq]
   exact ⟨fun ⟨a, b⟩ => ⟨a.symm, b.symm⟩, fun ⟨a, b⟩ => ⟨a.symm, b.symm⟩⟩
 · simp
 · simp
 · simp only [beq_iff_eq, Value.string.injEq, ByteArray.mk.injEq]
   constructor
   · rintro rfl; rfl
   · intro e; exact (by simpa using e.symm)
theorem zq3 {i : TI} : ∀ {cs : List LV}, qv1 i cs = true → cs.length % 2 = 0
 | [], _ => rfl
 | [x], hm => by cases x <;> simp [qv1] at hm
 | x :: y :: cs, hm => by
   cases x <;> simp only [qv1, Bool.false_eq_true] at hm
   simp only [Bool.and_eq_true] at hm
   have := zq3 hm.2
   simp only [List.length_cons]; omega
theorem zzz {i : TI} {d : TypeDesc} (hd : dk d = i.desc) {g : Gh} {k : D} {kv : Value} (hk : kof i k = true) (hkv : Rp g.Φ k kv) : ∀ {cs : List LV} {vs : List Value} (b n : Nat), qv1 i cs = true → LRps g cs vs →
  Instr.findNow d kv (ents b vs) n = some ((qvi k cs).map fun p => (n + p, vs.getD (2 * p + 1) undef)) ∧ (∀ p, qvi k cs = some p → vs[2 * p]? = some kv ∧ 2 * p + 1 < vs.length)
 | [], vs, b, n, _, h => by cases h; simp [ents, Instr.findNow, qvi]
 | [x], vs, b, n, hm, h => by cases x <;> simp [qv1] at hm
 | x :: y :: cs, vs, b, n, hm, h => by
   cases x <;> simp only [qv1, Bool.false_eq_true] at hm
   rename_i k'
   simp only [Bool.and_eq_true] at hm
   cases h with
   | cons h1 t =>
     cases t with
     | @cons _ v' _ vs h2 t =>
       rename_i kv'
       have hi := keq_iff hk hm.1 hkv h1.unD
       obtain ⟨r, hr, hiff⟩ := sameNow_of_keys (zx4 hd hk hkv) (zx4 hd hm.1 h1.unD)
       simp only [ents, Instr.findNow, hr, qvi]
       by_cases e : keq k k' = true
       · have e2 := hi.1 e
         have : r = true := hiff.2 e2.symm
         subst this
         simp only [if_pos e, Option.map_some, Nat.add_zero]
         refine ⟨by simp, fun p hp => ?_⟩
         cases hp
         exact ⟨by simp [e2], by simp⟩
       · have : r = false := by
          cases r with
          | false => rfl
          | true => exact absurd (hi.2 (hiff.1 rfl).symm) e
         subst this
         obtain ⟨ih1, ih2⟩ := zzz hd hk hkv (b + 1) (n + 1) hm.2 t
         simp only [if_neg e]
         rw [ih1]
         refine ⟨?_, fun p hp => ?_⟩
         · cases qvi k cs with
           | none => rfl
           | some p =>
             simp only [Option.map_some, Option.some.injEq, Prod.mk.injEq]
             refine ⟨by omega, ?_⟩
             rw [show 2 * (p + 1) + 1 = (2 * p + 1) + 1 + 1 by omega]
             simp
         · simp only [Option.map_eq_some_iff] at hp
           obtain ⟨q, hq, rfl⟩ := hp
           obtain ⟨a, b⟩ := ih2 q hq
           refine ⟨?_, by simp only [List.length_cons]; omega⟩
           rw [show 2 * (q + 1) = 2 * q + 1 + 1 by omega]
           simpa using a
theorem qja (vs : List Value) : qk8 qx4 vs = .map (ents 0 vs).toArray (vs.length / 2) := by
 unfold qk8; rw [if_neg (Nat.lt_irrefl _), if_pos rfl]
theorem qk0 (n : Nat) (m : Option Nat) (seen : List Value) : qk8 (qx4 + 1 + n) (.map m :: seen) = .mapIter m n (seen.map natOf).toArray n := by
 unfold qk8
 rw [if_neg (show ¬ qx4 + 1 + n < qx4 by simp only [qx4]; omega), if_neg (show ¬ qx4 + 1 + n = qx4 by simp only [qx4]; omega)]
 simp only [show qx4 + 1 + n - (qx4 + 1) = n by omega]
section
variable {P : Program} {E : Env} {z : Bg} {g : Gh} {ds : List Deferred} {s : S} {a : Act} {w : World}
theorem Set1.setObj {w : World} {B : Nat} {o o' : Obj} (h : w.heap[B]? = some o) : Set1 w { w with heap := w.heap.setIfInBounds B o' } B o' :=
 ⟨rfl, rfl, rfl, by simp, (heap_set h).1, fun b hb => (heap_set h).2 b hb⟩
theorem zxo {d : TypeDesc} {k : Value} (hk : IsKey d k) : Instr.sameBits 10000 k k = true := by
 cases d <;> cases k <;> simp_all [IsKey, Instr.sameBits, bytes_beq]
theorem insK_run (ht : TOK P E.tl) (hR : R z g ds s a w) {t : TypeId} {m k x : LV} {mv kv xv : Value} (hmv : LRp g m mv) (hkv : LRp g k kv) (hxv : LRp g x xv) {K : S → Prop} (h : insK E s t m k x K) :
  ∃ s' w', K s' ∧ R z g ds s' a w' ∧ (Instr.mapUpdate t mv kv xv).run P w = .ok () w' := by
 obtain ⟨ti, hti, h⟩ := h
 split at h
 · rename_i kt vt hdesc
   obtain ⟨ki, hki, h⟩ := h
   split at h
   · rename_i j k
     obtain ⟨b, hb, hty, hkof, hkeys, hone, hK⟩ := h
     obtain ⟨d, hd, hu⟩ := ht.und hti
     obtain ⟨dkey, hdk, huk⟩ := ht.und hki
     cases hmv
     obtain ⟨vs, hvs, hh, hones⟩ := hR.wd.box j b hb
     rw [hty, qja] at hh
     have hd' : d = .map kt vt := by
      cases d <;> simp only [dk] at hd <;> rw [hdesc] at hd <;> first | (cases hd; done) | skip
      cases hd; rfl
     subst hd'
     have hpk : P.underlying kt = some dkey := by
      obtain ⟨info, d2, _, _, _, _, h5, h6, _⟩ := ht kt ki (qqy hki)
      have h7 := huk w
      have h8 := zxp h5 w
      rw [h7] at h8
      simp only [Result.ok.injEq, and_true] at h8
      rw [h8]; exact h5
     have hkd := hkv.unD
     have hik := zx4 hdk hkof hkd
     obtain ⟨hf, hf2⟩ := zzz hdk hkof hkd 0 0 hkeys hvs
     have hev := zq3 hkeys
     rw [hvs.length] at hev
     have hrunf := run_findKey (P := P) (w := w) hpk hf
     have hck := run_checkKey (P := P) (w := w) hpk hik false 9999
     cases hm : qvi k b.cells with
     | none =>
       rw [hm] at hrunf
       simp only [Option.map_none] at hrunf
       have hset := Set1.setObj (o' := .map ((ents 0 vs).toArray.push { key := kv, val := xv, born := vs.length / 2 }) (vs.length / 2 + 1)) hh
       have hob : (.map ((ents 0 vs).toArray.push { key := kv, val := xv, born := vs.length / 2 }) (vs.length / 2 + 1) : Obj) = qk8 qx4 (vs ++ [kv, xv]) := by
        rw [qja, zkt vs 0 kv xv hev]
        simp only [List.push_toArray, Nat.zero_add, List.length_append, List.length_cons, List.length_nil]
        congr 1
        omega
       rw [hob, show qx4 = b.ty from hty.symm] at hset
       have hms : mset b.cells k x = b.cells ++ [.d k, x] := by unfold mset; rw [hm]
       refine ⟨_, { w with heap := w.heap.setIfInBounds (g.β j) (qk8 b.ty (vs ++ [kv, xv])) }, hK, ⟨hR.size, hR.defers, hR.tm, ?_⟩, ?_⟩
       · rw [hms]
         refine hR.rw.setBox hb hset (hvs.append (.cons hkv (.cons hxv .nil))) ?_
         intro v hv
         simp only [List.mem_append, List.mem_cons, List.not_mem_nil, or_false] at hv
         rcases hv with hv | rfl | rfl
         · exact hones v hv
         · cases dkey <;> cases v <;> simp_all [IsKey, Value.oneCell']
         · exact zzx hxv hone
       · rw [show b.ty = qx4 from hty, ← hob]
         simp only [Instr.mapUpdate, Sem.run_bind, hu w, Result.andThen_ok, run_getObj_map hh, hck, hrunf]
         exact run_setObj_map _ hh
     | some p =>
       rw [hm] at hrunf
       simp only [Option.map_some, Nat.zero_add] at hrunf
       obtain ⟨hpk1, hpk2⟩ := hf2 p hm
       have hset := Set1.setObj (o' := .map ((ents 0 vs).toArray.modify p fun e => { e with key := kv, val := xv }) (vs.length / 2)) hh
       have hob : (.map ((ents 0 vs).toArray.modify p fun e => { e with key := kv, val := xv }) (vs.length / 2) : Obj) = qk8 qx4 (vs.set (2 * p + 1) xv) := by
        rw [qja, ents_set vs 0 p xv kv hpk1 hpk2]
        simp
       rw [hob, show qx4 = b.ty from hty.symm] at hset
       have hms : mset b.cells k x = b.cells.set (2 * p + 1) x := by unfold mset; rw [hm]
       obtain ⟨en, hen⟩ : ∃ en, (ents 0 vs)[p]? = some en := ⟨_, List.getElem?_eq_getElem (by rw [qxo]; omega)⟩
       obtain ⟨q1, q2, q3⟩ := (qxq vs 0 p en).1 hen
       have hek : en.key = kv := by rw [hpk1] at q1; exact (Option.some.inj q1).symm
       have hkeep : ((((ents 0 vs).toArray[p]?).map (·.key)).getD kv) = kv := by simp [hen, hek]
       refine ⟨_, { w with heap := w.heap.setIfInBounds (g.β j) (qk8 b.ty (vs.set (2 * p + 1) xv)) }, hK, ⟨hR.size, hR.defers, hR.tm, ?_⟩, ?_⟩
       · rw [hms]
         refine hR.rw.setBox hb hset (hvs.set _ hxv) ?_
         intro v hv
         rcases List.mem_or_eq_of_mem_set hv with hv | rfl
         · exact hones v hv
         · exact zzx hxv hone
       · rw [show b.ty = qx4 from hty, ← hob]
         simp only [Instr.mapUpdate, Sem.run_bind, hu w, Result.andThen_ok, run_getObj_map hh, hck, hrunf, hkeep, Instr.keyThatStays, zxo hik, if_true, Sem.run_pure]
         exact run_setObj_map _ hh
   · exact h.elim
 · exact h.elim
theorem lukK_run (ht : TOK P E.tl) (hR : R z g ds s a w) {t : TypeId} {m k : LV} {mv kv : Value} (hmv : LRp g m mv) (hkv : LRp g k kv) {ok : Bool} {K : LV → Prop} (h : lukK E s t m k ok K) :
  ∃ q y, K y ∧ LRp g y q ∧ (Instr.lookup t mv kv ok).run P w = .ok q w := by
 obtain ⟨ti, hti, h⟩ := h
 split at h
 · rename_i kt vt hdesc
   obtain ⟨ki, hki, vi, hvi, h⟩ := h
   split at h
   · rename_i j k
     obtain ⟨b, hb, hty, hkof, hkeys, hK⟩ := h
     obtain ⟨d, hd, hu⟩ := ht.und hti
     obtain ⟨dkey, hdk, huk⟩ := ht.und hki
     have hz := ht.zero hvi w
     cases hmv
     obtain ⟨vs, hvs, hh, hones⟩ := hR.wd.box j b hb
     rw [hty, qja] at hh
     have hd' : d = .map kt vt := by
      cases d <;> simp only [dk] at hd <;> rw [hdesc] at hd <;> first | (cases hd; done) | skip
      cases hd; rfl
     subst hd'
     have hpk : P.underlying kt = some dkey := by
      obtain ⟨info, d2, _, _, _, _, h5, h6, _⟩ := ht kt ki (qqy hki)
      have h7 := huk w
      have h8 := zxp h5 w
      rw [h7] at h8
      simp only [Result.ok.injEq, and_true] at h8
      rw [h8]; exact h5
     have hkd := hkv.unD
     have hik := zx4 hdk hkof hkd
     obtain ⟨hf, hf2⟩ := zzz hdk hkof hkd 0 0 hkeys hvs
     have hrunf := run_findKey (P := P) (w := w) hpk hf
     have hck := run_checkKey (P := P) (w := w) hpk hik (ents 0 vs).toArray.isEmpty 9999
     cases hm : qvi k b.cells with
     | none =>
       rw [hm] at hrunf hK
       simp only [Option.map_none] at hrunf
       refine ⟨if ok then .tuple #[vi.zero, .bool false] else vi.zero, _, hK, ?_, ?_⟩
       · cases ok
         · exact cv_rp g _
         · exact .tup (.cons (cv_rp g _) (.cons (.d (.bool _)) .nil))
       · simp only [Instr.lookup, Sem.run_bind, hu w, Result.andThen_ok, run_getObj_map hh, Sem.run_pure, hck, hrunf, hz]
     | some p =>
       rw [hm] at hrunf hK
       obtain ⟨x, hx, hK⟩ := hK
       obtain ⟨hpk1, hpk2⟩ := hf2 p hm
       simp only [Option.map_some, Nat.zero_add] at hrunf
       obtain ⟨v, hv, hrv⟩ := hvs.get hx
       have hgd : vs.getD (2 * p + 1) undef = v := by rw [List.getD_eq_getElem?_getD, hv]; rfl
       rw [hgd] at hrunf
       refine ⟨if ok then .tuple #[v, .bool true] else v, _, hK, ?_, ?_⟩
       · cases ok
         · exact hrv
         · exact .tup (.cons hrv (.cons (.d (.bool _)) .nil))
       · simp only [Instr.lookup, Sem.run_bind, hu w, Result.andThen_ok, run_getObj_map hh, Sem.run_pure, hck, hrunf]
   · exact h.elim
 · exact h.elim
theorem nbR (hR : R z g ds s a w) {d : Nat} (hd : d < s.n) (h1000 : d < 1000) {ty : TypeId} {cs : List LV} {vs : List Value} {w' : World} (n : New w w' (qk8 ty vs)) (hc : LRps g cs vs) (hones : ∀ v ∈ vs, v.oneCell' = true)
  {x : LV} {q : Value} (hx : LRp { g with β := upd d w.heap.size g.β } x q) :
  R z { g with β := upd d w.heap.size g.β } ds { n := s.n, tm := put d x (mapf (fgt d) s.tm), bx := put d ⟨fgts d cs, ty⟩ (mapf (Box.fgt d) s.bx), ar := s.ar } (a.put (some d) q) w' := by
 obtain ⟨hb, hw⟩ := hR.rw.newBox h1000 (ty := ty) n hc hones
 have hda : d < a.tmps.size := by rw [hR.size]; exact hd
 refine ⟨by simp [Act.put, hR.size], hR.defers, fun k y hk => ?_, hw⟩
 rcases zj4 hk with ⟨rfl, rfl⟩ | ⟨e, hk'⟩
 · refine ⟨hd, ?_⟩
   have : (a.put (some k) q).tmps.getD k undef = q := by simp [Act.put, Array.getD, hda]
   rw [this]
   exact hx
 · simp only [mapf, Option.map_eq_some_iff] at hk'
   obtain ⟨y₀, hy₀, rfl⟩ := hk'
   obtain ⟨h3, h4⟩ := hR.tm k y₀ hy₀
   refine ⟨h3, ?_⟩
   have : (a.put (some d) q).tmps.getD k undef = a.tmps.getD k undef := by
    simp only [Act.put]
    rw [Array.getD_eq_getD_getElem?, Array.getD_eq_getD_getElem?, Array.getElem?_setIfInBounds, if_neg (fun e' => e e'.symm)]
   rw [this]
   exact h4.fgt hb
theorem mkmK_run (hR : R z g ds s a w) {d : Option Tmp} {K : S → Prop} (h : mkmK s d K) (t : TypeId) :
  ∃ q g' s' w', K s' ∧ R z g' ds s' (a.put d q) w' ∧ (Instr.makeMap t none).run P w = .ok q w' := by
 unfold mkmK at h
 split at h
 · rename_i d
   obtain ⟨hd, h1, hK⟩ := h
   have hx : LRp { g with β := upd d w.heap.size g.β } (.mp d) (.map (some w.heap.size)) := by
    have := LRp.mp (g := { g with β := upd d w.heap.size g.β }) d
    simpa [qzo] using this
   refine ⟨.map (some w.heap.size), _, _, _, hK, nbR hR hd h1 (ty := 1000000) (cs := []) (vs := []) (New.alloc w (.map #[] 0)) .nil (fun v hv => by cases hv) hx, ?_⟩
   rfl
 · exact h.elim
theorem rngK_run (ht : TOK P E.tl) (hR : R z g ds s a w) {d : Option Tmp} {t : TypeId} {x : LV} {xv : Value} (hxv : LRp g x xv) {K : S → Prop} (h : rngK E s d t x K) :
  ∃ q g' s' w', K s' ∧ R z g' ds s' (a.put d q) w' ∧ (Instr.range t xv).run P w = .ok q w' := by
 obtain ⟨ti, hti, h⟩ := h
 split at h
 · rename_i kt vt hdesc
   split at h
   · rename_i j d
     obtain ⟨b, hb, hty, hd, h1, hK⟩ := h
     obtain ⟨du, hdu, hu⟩ := ht.und hti
     have hd' : du = .map kt vt := by
      cases du <;> simp only [dk] at hdu <;> rw [hdesc] at hdu <;> first | (cases hdu; done) | skip
      cases hdu; rfl
     subst hd'
     cases hxv
     obtain ⟨vs, hvs, hh, hones⟩ := hR.wd.box j b hb
     rw [hty, qja] at hh
     have hx : LRp { g with β := upd d w.heap.size g.β } (.bp d 0) (.pointer (some ⟨w.heap.size, 0, none⟩)) := by
      have := LRp.bp (g := { g with β := upd d w.heap.size g.β }) d 0
      simpa [qzo] using this
     have hn : New w (w.alloc (.mapIter (some (g.β j)) (vs.length / 2) #[] (vs.length / 2))) (qk8 (1000001 + b.cells.length / 2) [.map (some (g.β j))]) := by
      have := qk0 (vs.length / 2) (some (g.β j)) []
      rw [show (1000001 + b.cells.length / 2 : Nat) = qx4 + 1 + vs.length / 2 by rw [hvs.length], this]
      exact New.alloc w _
     refine ⟨_, _, _, _, hK, nbR hR hd h1 hn (cs := [.mp j]) (.cons (.mp j) .nil) (fun v hv => by simp only [List.mem_singleton] at hv; subst hv; rfl) hx, ?_⟩
     simp only [Instr.range, Sem.run_bind, hu w, Result.andThen_ok, run_getObj_map hh, Sem.run_pure]
     rfl
   · exact h.elim
 · exact h.elim
theorem R.drew (h : R z g ds s a w) : R z g ds s a w.drew :=
 ⟨h.size, h.defers, h.tm, ⟨⟨h.rw.wd.box, h.rw.wd.arr, h.rw.wd.len, h.rw.wd.fx, h.rw.wd.inj, h.rw.wd.inja, h.rw.wd.injb, h.rw.wd.outb, h.rw.wd.outa⟩, ⟨h.rw.fr.os, h.rw.fr.tape, h.rw.fr.output, h.rw.fr.size, h.rw.fr.block⟩, h.rw.mine, h.rw.keys⟩⟩
theorem zk7 (w : World) {n : Nat} (hn : 0 < n) : ∃ (j : Nat) (w1 : World), j < n ∧ (w1 = w ∨ w1 = w.drew) ∧ (choose (Question.mapNext n)).run P w = .ok j w1 := by
 by_cases hf : n ≤ 1
 · exact ⟨0, w, hn, .inl rfl, by simp [choose, Sem.run, Question.forced, hf]⟩
 · exact ⟨_, w.drew, Nat.mod_lt _ hn, .inr rfl, by
    simp only [choose, Sem.run, Question.forced, decide_eq_true_eq, hf, if_false, Question.cut]
    rfl⟩
theorem zzs {g : Gh} : ∀ {cs : List LV} {vs : List Value} {seen : List Nat}, qvq cs = some seen → LRps g cs vs → vs.map natOf = seen
 | [], vs, seen, h, hr => by cases hr; simpa [qvq] using h
 | x :: cs, vs, seen, h, hr => by
   cases hr with
   | cons h1 t =>
     match x, h1, h with
     | .d (.int k n), h1, h =>
       simp only [qvq, Option.map_eq_some_iff] at h
       obtain ⟨l, hl, rfl⟩ := h
       cases h1.unD
       simp [natOf, zzs hl t]
theorem qwe {vs : List Value} {e : MapEntry} (h : e ∈ ents 0 vs) : ∃ i, i < vs.length / 2 ∧ vs[2 * i]? = some e.key ∧ vs[2 * i + 1]? = some e.val ∧ e.born = i := by
 obtain ⟨i, hi⟩ := List.getElem?_of_mem h
 obtain ⟨h1, h2, h3⟩ := (qxq vs 0 i e).1 hi
 have := (List.getElem?_eq_some_iff.1 hi).1
 rw [qxo] at this
 exact ⟨i, this, h1, h2, by omega⟩
theorem nxtK_run (hR : R z g ds s a w) {d : Option Tmp} {x : LV} {xv : Value} (hxv : LRp g x xv) {K : S → Prop} (h : nxtK s d x K) (ty : TypeId) :
  ∃ q y s' w', K (s'.pt d y) ∧ dOk s' d ∧ LRp g y q ∧ R z g ds s' a w' ∧ (Instr.next xv false ty).run P w = .ok q w' := by
 unfold nxtK at h
 split at h
 · rename_i r
   obtain ⟨b, hb, h⟩ := h
   split at h
   · rename_i j cs hbc
     obtain ⟨seen, hseen, m, hm, hmty, hbty, hev, hd, hK1, hK0⟩ := h
     cases hxv
     obtain ⟨vr, hvr, hhr, honer⟩ := hR.wd.box r b hb
     obtain ⟨vm, hvm, hhm, honem⟩ := hR.wd.box j m hm
     rw [hmty, qja] at hhm
     rw [hbc] at hvr
     cases hvr with
     | @cons _ v0 _ vr hv0 hvr =>
     cases hv0
     have hsn := zzs hseen hvr
     have hbty' : b.ty = qx4 + 1 + vm.length / 2 := by rw [hbty, hvm.length]
     rw [hbty', qk0, hsn] at hhr
     unfold nxt1 at hK1
     unfold nxt0 at hK0
     rw [hvm.length] at hK0
     simp only [hvm.length] at hK1
     have hgr : (getObj (g.β r)).run P w = .ok (.mapIter (some (g.β j)) (vm.length / 2) seen.toArray (vm.length / 2)) w := by simp [getObj, Sem.run, hhr]
     have hgm := run_getObj_map (P := P) hhm
     have htest : (!seen.toArray.isEmpty && !(ents 0 vm).toArray.isEmpty && (ents 0 vm).toArray.all (fun e => decide (e.born ≥ vm.length / 2))) = false := by
      cases he : (ents 0 vm).toArray.isEmpty with
      | true => simp
      | false =>
        have : (ents 0 vm).toArray.all (fun e => decide (e.born ≥ vm.length / 2)) = false := by
         rw [Bool.eq_false_iff]
         intro hall
         rw [Array.all_eq_true_iff_forall_mem] at hall
         cases hl : ents 0 vm with
         | nil => rw [hl] at he; simp at he
         | cons e l =>
           have hme : e ∈ ents 0 vm := by rw [hl]; simp
           obtain ⟨i, hi, _, _, hbn⟩ := qwe hme
           have := hall e (by simpa using hme)
           simp at this
           omega
        rw [this, Bool.and_false]
     have hold : ((ents 0 vm).toArray.filter (fun e => !seen.toArray.contains e.born)).filter (fun e => decide (e.born < vm.length / 2)) = (ents 0 vm).toArray.filter (fun e => !seen.toArray.contains e.born) := by
      rw [Array.filter_eq_self]
      intro e he
      simp only [Array.mem_filter] at he
      obtain ⟨i, hi, _, _, hbn⟩ := qwe (by simpa using he.1)
      simp; omega
     have hnew : ((ents 0 vm).toArray.filter (fun e => !seen.toArray.contains e.born)).filter (fun e => decide (e.born ≥ vm.length / 2)) = #[] := by
      rw [Array.filter_eq_empty_iff]
      intro e he
      simp only [Array.mem_filter] at he
      obtain ⟨i, hi, _, _, hbn⟩ := qwe (by simpa using he.1)
      simp; omega
     have hL : ∀ e, e ∈ (ents 0 vm).toArray.filter (fun e => !seen.toArray.contains e.born) → e ∈ ents 0 vm ∧ e.born ∉ seen := by
      intro e he
      simp only [Array.mem_filter] at he
      exact ⟨by simpa using he.1, by simpa using he.2⟩
     have hL0 : (ents 0 vm).toArray.filter (fun e => !seen.toArray.contains e.born) = #[] → ∀ i, i < vm.length / 2 → i ∈ seen := by
      intro he i hi
      rw [Array.filter_eq_empty_iff] at he
      obtain ⟨en, hen⟩ : ∃ en, (ents 0 vm)[i]? = some en := ⟨_, List.getElem?_eq_getElem (by rw [qxo]; exact hi)⟩
      have := he en (by simpa using List.mem_of_getElem? hen)
      obtain ⟨_, _, h3⟩ := (qxq vm 0 i en).1 hen
      have h4 : en.born ∈ seen := by simpa using this
      rw [h3, Nat.zero_add] at h4
      exact h4
     simp only [Instr.next, Sem.run_bind, hgr, hgm, Result.andThen_ok, htest, Bool.false_eq_true, if_false, hold, hnew, Array.append_empty]
     generalize (ents 0 vm).toArray.filter (fun e => !seen.toArray.contains e.born) = L at hL hL0
     by_cases h0 : L = #[]
     · subst h0
       refine ⟨.tuple #[.bool false], _, s, w, hK0 (hL0 rfl), hd, .tup (.cons (.d (.bool false)) .nil), hR, ?_⟩
       simp [choose, Sem.run, Question.forced]
     · have hne : L.isEmpty = false := by simpa [Array.isEmpty_iff] using h0
       have hsz : 0 < L.size := by
        rcases Nat.eq_zero_or_pos L.size with h | h
        · exact absurd (Array.eq_empty_of_size_eq_zero h) h0
        · exact h
       simp only [hne, Bool.false_eq_true, if_false, Array.empty_append, Array.size_map]
       obtain ⟨c, w1, hc, hw1, hrun⟩ := zk7 (P := P) w hsz
       simp only [hrun, Result.andThen_ok, Array.getElem?_map, Array.getElem?_eq_getElem hc, Option.map_some]
       obtain ⟨hmem, hns⟩ := hL L[c] (Array.getElem_mem hc)
       obtain ⟨i, hi, hk, hv, hbn⟩ := qwe hmem
       rw [hbn] at hns
       have hR1 : R z g ds s a w1 := by rcases hw1 with rfl | rfl; exact hR; exact hR.drew
       have hhr1 : w1.heap[g.β r]? = some (.mapIter (some (g.β j)) (vm.length / 2) seen.toArray (vm.length / 2)) := by rcases hw1 with rfl | rfl <;> exact hhr
       have hset := Set1.setObj (o' := .mapIter (some (g.β j)) (vm.length / 2) (seen.toArray.push i) (vm.length / 2)) hhr1
       have hob : (.mapIter (some (g.β j)) (vm.length / 2) (seen.toArray.push i) (vm.length / 2) : Obj) = qk8 b.ty (.map (some (g.β j)) :: (vr ++ [.int .i64 i])) := by
        rw [hbty', qk0, List.map_append, hsn]
        simp [natOf]
       rw [hob] at hset
       obtain ⟨lk, hlk, hrk⟩ := hvm.get' hk
       obtain ⟨lv, hlv, hrv⟩ := hvm.get' hv
       refine ⟨.tuple #[.bool true, L[c].key, L[c].val], _, _, _, hK1 i lk lv hi hns hlk hlv, ?_, .tup (.cons (.d (.bool true)) (.cons hrk (.cons hrv .nil))),
        ⟨hR1.size, hR1.defers, hR1.tm, hR1.rw.setBox hb hset (.cons (.mp j) (hvr.append (.cons (.d (.int .i64 i)) .nil))) ?_⟩, ?_⟩
       · cases d <;> exact hd
       · intro v hv
         simp only [List.mem_cons, List.mem_append, List.not_mem_nil, or_false] at hv
         rcases hv with rfl | hv | rfl
         · rfl
         · exact honer v (by simp [hv])
         · rfl
       · have hso : (setObj (g.β r) (.mapIter (some (g.β j)) (vm.length / 2) (seen.toArray.push i) (vm.length / 2))).run P w1 = .ok () { w1 with heap := w1.heap.setIfInBounds (g.β r) (.mapIter (some (g.β j)) (vm.length / 2) (seen.toArray.push i) (vm.length / 2)) } := by simp [setObj, Sem.run, hhr1]
         simp only [← hob, hbn, Sem.run_bind, hso, Result.andThen_ok, Sem.run_pure]
   · exact h.elim
 · exact h.elim
theorem entK_run (hR : R z g ds s a w) {d : Option Tmp} {x : LV} {xv : Value} (hxv : LRp g x xv) {K : S → Prop} (h : entK s d x K) :
  ∃ q y, K (s.pt d y) ∧ dOk s d ∧ LRp g y q ∧ (Instr.entry xv).run P w = .ok q w := by
 unfold entK at h
 split at h
 · rename_i r
   obtain ⟨b, hb, h⟩ := h
   split at h
   · rename_i j cs hbc
     obtain ⟨seen, hseen, i, hi, m, hm, hmty, hbty, hd, k, hk, v, hv, hK⟩ := h
     cases hxv
     obtain ⟨vr, hvr, hhr, honer⟩ := hR.wd.box r b hb
     obtain ⟨vm, hvm, hhm, honem⟩ := hR.wd.box j m hm
     rw [hmty, qja] at hhm
     rw [hbc] at hvr
     cases hvr with
     | @cons _ v0 _ vr hv0 hvr =>
     cases hv0
     have hsn := zzs hseen hvr
     have hbty' : b.ty = qx4 + 1 + vm.length / 2 := by rw [hbty, hvm.length]
     rw [hbty', qk0, hsn] at hhr
     have hgr : (getObj (g.β r)).run P w = .ok (.mapIter (some (g.β j)) (vm.length / 2) seen.toArray (vm.length / 2)) w := by simp [getObj, Sem.run, hhr]
     have hgm := run_getObj_map (P := P) hhm
     obtain ⟨kv, hkv, hrk⟩ := hvm.get hk
     obtain ⟨vv, hvv, hrv⟩ := hvm.get hv
     have hen : (ents 0 vm)[i]? = some { key := kv, val := vv, born := i } := (qxq vm 0 i _).2 ⟨hkv, hvv, by simp⟩
     have hback : seen.toArray.back? = some i := by rw [Array.back?_eq_getElem?]; rw [List.getLast?_eq_getElem?] at hi; simpa using hi
     have hfind : (ents 0 vm).toArray.find? (fun e => e.born == i) = some { key := kv, val := vv, born := i } := by
      rw [List.find?_toArray]
      cases hf : (ents 0 vm).find? (fun e => e.born == i) with
      | none =>
        have := List.find?_eq_none.1 hf _ (List.mem_of_getElem? hen)
        simp at this
      | some e =>
        have h1 := List.find?_some hf
        have h2 := List.mem_of_find?_eq_some hf
        obtain ⟨n, hn⟩ := List.getElem?_of_mem h2
        obtain ⟨_, _, h3⟩ := (qxq vm 0 n e).1 hn
        simp only [beq_iff_eq] at h1
        have : n = i := by omega
        subst this
        rw [hn] at hen
        exact hen
     refine ⟨.tuple #[kv, vv], _, hK, hd, .tup (.cons hrk (.cons hrv .nil)), ?_⟩
     simp only [Instr.entry, Sem.run_bind, hgr, Result.andThen_ok, hback, hgm, bne_self_eq_false, Bool.false_eq_true, if_false, hfind, Sem.run_pure]
   · exact h.elim
 · exact h.elim
end
end Lx
