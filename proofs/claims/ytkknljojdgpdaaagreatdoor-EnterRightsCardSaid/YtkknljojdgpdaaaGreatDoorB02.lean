import Derived.Test.YtkknljojdgpdaaaGreatDoorB01
set_option maxHeartbeats 32000000
set_option linter.unusedSimpArgs false
set_option linter.unusedVariables false
namespace Lx
open Go
def upd {α:Type}(k:Nat)(x:α)(f:Nat->α):Nat->α:=fun j=>if j=k then x else f j
theorem qzv {α:Type}(k:Nat)(x:α)(f:Nat->α):upd k x f k=x:=by simp[upd]
theorem qzB {α:Type}{k j:Nat}(x:α)(f:Nat->α)(h:j≠k):upd k x f j=f j:=by simp[upd,h]
theorem qz7 {α:Type}(k:Nat)(x:α)(f:Nat->Option α):put k x f k=some x:=by simp[put]
theorem qzV {α:Type}{k j:Nat}(x:α)(f:Nat->Option α)(h:j≠k):put k x f j=f j:=by simp[put,h]
theorem qxy {α:Type}{k j:Nat}{x:α}{f:Nat->Option α}(h:del k f j=some x):j≠k/\f j=some x:=by
 unfold del at h;split at h;{cases h};exact⟨by assumption,h⟩
structure New (w w':World)(o:Obj):Prop where
 os:w'.os=w.os
 tape:w'.tape=w.tape
 output:w'.output=w.output
 size:w'.heap.size=w.heap.size+1
 new:w'.heap[w.heap.size]?=some o
 old:∀b,b<w.heap.size->w'.heap[b]?=w.heap[b]?
theorem New.alloc (w:World)(o:Obj):New w (w.alloc o) o:=⟨rfl,rfl,rfl,by simp,heap_alloc_new w o,fun b h=>heap_alloc_old w o h⟩
theorem New.drew (w:World)(o:Obj):New w (w.drew.alloc o) o:=⟨rfl,rfl,rfl,by simp,heap_alloc_new w.drew o,fun b h=>heap_alloc_old w.drew o h⟩
structure Set1 (w w':World)(B:Nat)(o:Obj):Prop where
 os:w'.os=w.os
 tape:w'.tape=w.tape
 output:w'.output=w.output
 size:w'.heap.size=w.heap.size
 new:w'.heap[B]?=some o
 old:∀b,b≠B->w'.heap[b]?=w.heap[b]?
theorem Set1.setRow (w:World)(B:Nat)(c c':Array Value)(t:TypeId)(fr:Nat×Nat)(h:w.heap[B]?=some (.cells c t fr)):Set1 w (w.setRow B c') B (.cells c' t fr):=
 ⟨rfl,rfl,rfl,by simp,setRow_heap w B c c' t fr h,fun b hb=>setRow_other w B b c' hb⟩
theorem qqb {w:World}{b:Nat}{o:Obj}(h:w.heap[b]?=some o):b<w.heap.size:=(Array.getElem?_eq_some_iff.1 h).1
theorem Wd.lt_box {g:Gh}{bx:Bx}{ar:Ar}{w:World}(h:Wd g bx ar w){k:Nat}{b:Box}(hb:bx k=some b):g.β k<w.heap.size:=by
 obtain⟨vs,_,hh,_⟩:=h.box k b hb;exact qqb hh
theorem Wd.lt_arr {g:Gh}{bx:Bx}{ar:Ar}{w:World}(h:Wd g bx ar w){r:Nat}{a:Nat×TypeId×List D}(ha:ar r=some a):(g.α r).1<w.heap.size:=by
 obtain⟨sz,ty,xs⟩:=a;obtain⟨us,c,_,hh,_⟩:=h.arr r sz ty xs ha;exact qqb hh
theorem Wd.lt_fix {g:Gh}{bx:Bx}{ar:Ar}{w:World}(h:Wd g bx ar w){b o:Nat}{v:Value}(hv:g.Φ b o=some v):b<w.heap.size:=World.block_lt_of_cell? w ⟨b,o,none⟩ (h.fix b o v hv).1
theorem Wd.fix_none {g:Gh}{bx:Bx}{ar:Ar}{w:World}(h:Wd g bx ar w){b o:Nat}(hb:w.heap.size<=b):g.Φ b o=none:=by
 cases hv:g.Φ b o with|none=>{rfl}|some v=>{exact absurd (h.lt_fix hv) (by omega)}
theorem qq1 {w w':World}{b o:Nat}(h:w'.heap[b]?=w.heap[b]?):w'.cell? ⟨b,o,none⟩=w.cell? ⟨b,o,none⟩:=World.cell?_of_block (a:=⟨b,o,none⟩) h
theorem Fr.new {own:Nat->Prop}{w₀ w w':World}{o:Obj}(h:Fr own w₀ w)(n:New w w' o):Fr own w₀ w':=
 ⟨n.os.trans h.os,n.tape.trans h.tape,n.output.trans h.output,by rw[n.size];have:=h.size;omega,fun b hb hn=>(n.old b (Nat.lt_of_lt_of_le hb h.size)).trans (h.block b hb hn)⟩
theorem Fr.set {own:Nat->Prop}{w₀ w w':World}{B:Nat}{o:Obj}(h:Fr own w₀ w)(n:Set1 w w' B o)(hB:own B\/w₀.heap.size<=B):Fr own w₀ w':=
 ⟨n.os.trans h.os,n.tape.trans h.tape,n.output.trans h.output,by rw[n.size];exact h.size,fun b hb hn=>(n.old b (by rintro rfl;rcases hB with hB|hB;exact hn hB;omega)).trans (h.block b hb hn)⟩
theorem LRps.get' {g:Gh}{xs:List LV}{vs:List Value}(h:LRps g xs vs){i:Nat}{v:Value}(hv:vs[i]?=some v):∃x,xs[i]?=some x/\LRp g x v:=by
 induction xs generalizing vs i with|nil=>{cases h;simp at hv}|cons y ds ih=>{cases h with|cons hx t=>{cases i with|zero=>{simp at hv;subst hv;exact⟨_,rfl,hx⟩}|succ i=>{simp at hv;simpa using ih t hv}}}
section
variable {z:Bg}{g:Gh}{bx:Bx}{ar:Ar}{w w':World}
theorem Rw.newBox (h:Rw z g bx ar w){d:Nat}(hd:d<1000){cs:List LV}{vs:List Value}{ty:TypeId}(n:New w w' (objOf ty vs))(hc:LRps g cs vs)(h1:∀v∈vs,v.oneCell'=true):
  Gh.but d g {g with β:=upd d w.heap.size g.β}/\Rw z {g with β:=upd d w.heap.size g.β} (put d ⟨fgts d cs,ty⟩ (mapf (Box.fgt d) bx)) ar w':=by
 have hb:Gh.but d g {g with β:=upd d w.heap.size g.β}:=⟨fun j hj=>qzB _ _ hj,fun _ _=>rfl,fun _ _=>rfl,Phi.le_refl _⟩;have hget:∀k b,put d ⟨fgts d cs,ty⟩ (mapf (Box.fgt d) bx) k=some b->(k=d/\b=⟨fgts d cs,ty⟩)\/(k≠d/\∃b₀,bx k=some b₀/\b=b₀.fgt d):=by{intro k b hk;by_cases e:k=d;{subst e;rw[qz7]at hk;exact .inl ⟨rfl,by simpa using hk.symm⟩};{rw[qzV _ _ e]at hk;simp only[mapf,Option.map_eq_some_iff]at hk;obtain⟨b₀,h1,h2⟩:=hk;exact .inr ⟨e,b₀,h1,h2.symm⟩}};refine⟨hb,⟨?_,?_,?_,?_,?_,?_,?_,?_,?_⟩,h.fr.new n,⟨?_,h.mine.arr,h.mine.le,h.mine.fix⟩,?_⟩;{intro k b hk;rcases hget k b hk with⟨rfl,rfl⟩|⟨e,b₀,hb₀,rfl⟩;exact⟨vs,hc.fgts hb,by simp only[qzv];exact n.new,h1⟩;{obtain⟨us,hus,hh,hone⟩:=h.wd.box k b₀ hb₀;exact⟨us,hus.fgts hb,by simp only[qzB _ _ e];rw[n.old _ (qqb hh)];exact hh,hone⟩}};{intro r sz ty' xs hr;obtain⟨us,c,h1,h2,h3⟩:=h.wd.arr r sz ty' xs hr;exact⟨us,c,h1,by rw[n.old _ (qqb h2)];exact h2,h3⟩};exact h.wd.len;{refine⟨fun b o v hv=>?_,h.wd.glo⟩;rw[qq1 (n.old b (h.wd.lt_fix hv))];exact h.wd.fix b o v hv};{intro k k' b b' hk hk' he;rcases hget k b hk with⟨rfl,rfl⟩|⟨e,b₀,hb₀,rfl⟩<;>rcases hget k' b' hk' with⟨rfl,rfl⟩|⟨e',b₁,hb₁,rfl⟩;rfl;{simp only[qzv,qzB _ _ e']at he;have:=h.wd.lt_box hb₁;omega};{simp only[qzv,qzB _ _ e]at he;have:=h.wd.lt_box hb₀;omega};{simp only[qzB _ _ e,qzB _ _ e']at he;exact h.wd.inj k k' _ _ hb₀ hb₁ he}};exact h.wd.inja;{intro k r b a hk hr;rcases hget k b hk with⟨rfl,rfl⟩|⟨e,b₀,hb₀,rfl⟩;{simp only[qzv];have:=h.wd.lt_arr hr;omega};{simp only[qzB _ _ e];exact h.wd.injb k r _ a hb₀ hr}};{intro k b o hk;rcases hget k b hk with⟨rfl,rfl⟩|⟨e,b₀,hb₀,rfl⟩;{simp only[qzv];exact h.wd.fix_none (Nat.le_refl _)};{simp only[qzB _ _ e];exact h.wd.outb k _ o hb₀}};exact h.wd.outa;{intro k b hk;rcases hget k b hk with⟨rfl,rfl⟩|⟨e,b₀,hb₀,rfl⟩;{simp only[qzv];exact .inr h.fr.size};{simp only[qzB _ _ e];exact h.mine.box k _ hb₀}};{intro k hk;rw[show({g with β:=upd d w.heap.size g.β}:Gh).β k=g.β k from qzB _ _ (by omega)];exact h.keys k hk}
def qkf (Φ:Nat->Nat->Option Value)(sz cap:Nat)(xs:List D)(c:Array Value):Prop:=
 ∃us,Rps Φ xs us/\c.size=cap*sz/\xs.length<=cap/\0<sz/\cap<=maxLen/\
  (∀(i:Nat) (u:Value),us[i]?=some u->u.cells.size=sz/\(∀v∈u.cells,v.oneCell'=true)/\∀(j:Nat) (x:Value),u.cells[j]?=some x->c[i*sz+j]?=some x)
theorem Rw.newArr (h:Rw z g bx ar w){d sz cap:Nat}{ty:TypeId}{xs:List D}{c:Array Value}(hty:ty<1000000)(n:New w w' (.cells c ty (0,0)))(hc:qkf g.Φ sz cap xs c):
  Gh.but d g {g with α:=upd d (w.heap.size,cap) g.α,len:=upd d (some xs.length) g.len}/\
  Rw z {g with α:=upd d (w.heap.size,cap) g.α,len:=upd d (some xs.length) g.len} (mapf (Box.fgt d) bx) (put d (sz,ty,xs) ar) w':=by
 have hb:Gh.but d g {g with α:=upd d (w.heap.size,cap) g.α,len:=upd d (some xs.length) g.len}:=⟨fun _ _=>rfl,fun j hj=>qzB _ _ hj,fun j hj=>qzB _ _ hj,Phi.le_refl _⟩;have hget:∀k b,mapf (Box.fgt d) bx k=some b->∃b₀,bx k=some b₀/\b=b₀.fgt d:=by{intro k b hk;simp only[mapf,Option.map_eq_some_iff]at hk;obtain⟨b₀,h1,h2⟩:=hk;exact⟨b₀,h1,h2.symm⟩};have hgeta:∀r a,put d (sz,ty,xs) ar r=some a->(r=d/\a=(sz,ty,xs))\/(r≠d/\ar r=some a):=by{intro r a hr;by_cases e:r=d;{subst e;rw[qz7]at hr;exact .inl ⟨rfl,by simpa using hr.symm⟩};{rw[qzV _ _ e]at hr;exact .inr ⟨e,hr⟩}};refine⟨hb,⟨?_,?_,?_,?_,?_,?_,?_,?_,?_⟩,h.fr.new n,⟨?_,?_,h.mine.le,h.mine.fix⟩,h.keys⟩;{intro k b hk;obtain⟨b₀,hb₀,rfl⟩:=hget k b hk;obtain⟨us,hus,hh,hone⟩:=h.wd.box k b₀ hb₀;exact⟨us,hus.fgts hb,by rw[n.old _ (qqb hh)];exact hh,hone⟩};{intro r sz' ty' xs' hr;rcases hgeta r _ hr with⟨rfl,e⟩|⟨e,hr'⟩;{simp only[Prod.mk.injEq]at e;obtain⟨rfl,rfl,rfl⟩:=e;obtain⟨us,h1,h2,h3,h4,h5,h6⟩:=hc;exact⟨us,c,h1,by simp only[qzv];rw[yzu hty];exact n.new,by simp only[qzv];exact h2,by simp only[qzv];exact h3,h4,by simp only[qzv];exact h5,h6⟩};{obtain⟨us,c',h1,h2,h3⟩:=h.wd.arr r sz' ty' xs' hr';refine⟨us,c',h1,?_,?_⟩;{simp only[qzB _ _ e];rw[n.old _ (qqb h2)];exact h2};{simpa only[qzB _ _ e]using h3}}};{intro r;by_cases e:r=d;{subst e;simp only[qzv,qz7,Option.map_some]};{simp only[qzB _ _ e,qzV _ _ e];exact h.wd.len r}};{refine⟨fun b o v hv=>?_,h.wd.glo⟩;rw[qq1 (n.old b (h.wd.lt_fix hv))];exact h.wd.fix b o v hv};{intro k k' b b' hk hk' he;obtain⟨b₀,hb₀,rfl⟩:=hget k b hk;obtain⟨b₁,hb₁,rfl⟩:=hget k' b' hk';exact h.wd.inj k k' _ _ hb₀ hb₁ he};{intro r r' a a' hr hr' he;rcases hgeta r a hr with⟨rfl,_⟩|⟨e,h1⟩<;>rcases hgeta r' a' hr' with⟨rfl,_⟩|⟨e',h2⟩;rfl;{simp only[qzv,qzB _ _ e']at he;have:=h.wd.lt_arr h2;omega};{simp only[qzv,qzB _ _ e]at he;have:=h.wd.lt_arr h1;omega};{simp only[qzB _ _ e,qzB _ _ e']at he;exact h.wd.inja r r' a a' h1 h2 he}};{intro k r b a hk hr;obtain⟨b₀,hb₀,rfl⟩:=hget k b hk;rcases hgeta r a hr with⟨rfl,_⟩|⟨e,h1⟩;{simp only[qzv];have:=h.wd.lt_box hb₀;omega};{simp only[qzB _ _ e];exact h.wd.injb k r _ a hb₀ h1}};{intro k b o hk;obtain⟨b₀,hb₀,rfl⟩:=hget k b hk;exact h.wd.outb k _ o hb₀};{intro r a o hr ho;rcases hgeta r a hr with⟨rfl,_⟩|⟨e,h1⟩;{simp only[qzv];exact h.wd.fix_none (Nat.le_refl _)};{simp only[qzB _ _ e];exact h.wd.outa r a o h1 ho}};{intro k b hk;obtain⟨b₀,hb₀,rfl⟩:=hget k b hk;exact h.mine.box k _ hb₀};{intro r a hr;rcases hgeta r a hr with⟨rfl,_⟩|⟨e,h1⟩;{simp only[qzv];exact .inr h.fr.size};{simp only[qzB _ _ e];exact h.mine.arr r a h1}}
def phi1 (B n:Nat)(c:Array Value)(Φ:Nat->Nat->Option Value):Nat->Nat->Option Value:=fun b o=>if b=B/\o<n then c[o]? else Φ b o
theorem Rw.newFix (h:Rw z g bx ar w){ty:TypeId}{c:Array Value}(n:New w w' (.cells c ty (0,0)))(h1:∀v∈c,v.oneCell'=true):
  Gh.le g {g with Φ:=phi1 w.heap.size c.size c g.Φ}/\Rw z {g with Φ:=phi1 w.heap.size c.size c g.Φ} bx ar w':=by
 have hle:Phi.le g.Φ (phi1 w.heap.size c.size c g.Φ):=by{intro b o v hv;have:=h.wd.lt_fix hv;unfold phi1;rw[if_neg (by omega)];exact hv};have hl:Gh.le g {g with Φ:=phi1 w.heap.size c.size c g.Φ}:=⟨rfl,hle,fun r m' hm=>⟨m',hm,Nat.le_refl _,fun _=>rfl⟩⟩;have hne:∀b o,b<w.heap.size->phi1 w.heap.size c.size c g.Φ b o=g.Φ b o:=fun b o hb=>by{unfold phi1;rw[if_neg (by omega)]};refine⟨hl,⟨?_,?_,h.wd.len,?_,h.wd.inj,h.wd.inja,h.wd.injb,?_,?_⟩,h.fr.new n,⟨h.mine.box,h.mine.arr,Phi.le_trans h.mine.le hle,?_⟩,h.keys⟩;{intro k b hk;obtain⟨us,hus,hh,hone⟩:=h.wd.box k b hk;exact⟨us,hus.mono hl,by rw[n.old _ (qqb hh)];exact hh,hone⟩};{intro r sz' ty' xs' hr;obtain⟨us,c',h1,h2,h3⟩:=h.wd.arr r sz' ty' xs' hr;exact⟨us,c',h1.mono hle,by rw[n.old _ (qqb h2)];exact h2,h3⟩};{refine⟨fun b o v hv=>?_,qvZ h.wd.glo hle⟩;simp only[phi1]at hv;split at hv;{rename_i hb;obtain⟨rfl,ho⟩:=hb;refine⟨by simp only[World.cell?,n.new];simpa using hv,h1 v (Array.mem_of_getElem? hv)⟩};{rw[qq1 (n.old b (h.wd.lt_fix hv))];exact h.wd.fix b o v hv}};{intro k b o hk;exact(hne _ _ (h.wd.lt_box hk)).trans (h.wd.outb k b o hk)};{intro r a o hr ho;exact(hne _ _ (h.wd.lt_arr hr)).trans (h.wd.outa r a o hr ho)};{intro b o v hv;simp only[phi1]at hv;split at hv;{rename_i hb;exact .inr (.inr (by rw[hb.1];exact h.fr.size))};exact h.mine.fix b o v hv}
theorem Rw.setBox (h:Rw z g bx ar w){k:Nat}{b:Box}(hk:bx k=some b){cs:List LV}{vs:List Value}(n:Set1 w w' (g.β k) (objOf b.ty vs))(hc:LRps g cs vs)(h1:∀v∈vs,v.oneCell'=true):
  Rw z g (put k ⟨cs,b.ty⟩ bx) ar w':=by
 have hget:∀j b',put k ⟨cs,b.ty⟩ bx j=some b'->(j=k/\b'=⟨cs,b.ty⟩)\/(j≠k/\bx j=some b'):=by{intro j b' hj;by_cases e:j=k;{subst e;rw[qz7]at hj;exact .inl ⟨rfl,by simpa using hj.symm⟩};{rw[qzV _ _ e]at hj;exact .inr ⟨e,hj⟩}};have hex:∀j b',put k ⟨cs,b.ty⟩ bx j=some b'->∃b₀,bx j=some b₀:=by{intro j b' hj;rcases hget j b' hj with⟨rfl,_⟩|⟨_,hj'⟩;exact⟨b,hk⟩;exact⟨b',hj'⟩};refine⟨⟨?_,?_,h.wd.len,?_,?_,h.wd.inja,?_,?_,h.wd.outa⟩,h.fr.set n (h.mine.box k b hk),⟨?_,h.mine.arr,h.mine.le,h.mine.fix⟩,h.keys⟩;{intro j b' hj;rcases hget j b' hj with⟨rfl,rfl⟩|⟨e,hj'⟩;exact⟨vs,hc,n.new,h1⟩;{obtain⟨us,hus,hh,hone⟩:=h.wd.box j b' hj';exact⟨us,hus,by rw[n.old _ (fun e'=>e (h.wd.inj j k _ _ hj' hk e'))];exact hh,hone⟩}};{intro r sz' ty' xs' hr;obtain⟨us,c',h1,h2,h3⟩:=h.wd.arr r sz' ty' xs' hr;exact⟨us,c',h1,by rw[n.old _ (fun e'=>h.wd.injb k r _ _ hk hr e'.symm)];exact h2,h3⟩};{refine⟨fun b' o v hv=>?_,h.wd.glo⟩;have:b'≠g.β k:=by{rintro rfl;rw[h.wd.outb k b o hk]at hv;cases hv};rw[qq1 (n.old b' this)];exact h.wd.fix b' o v hv};{intro j j' b' b'' hj hj' he;obtain⟨_,h1⟩:=hex j b' hj;obtain⟨_,h2⟩:=hex j' b'' hj';exact h.wd.inj j j' _ _ h1 h2 he};{intro j r b' a hj hr;obtain⟨_,h1⟩:=hex j b' hj;exact h.wd.injb j r _ a h1 hr};{intro j b' o hj;obtain⟨_,h1⟩:=hex j b' hj;exact h.wd.outb j _ o h1};{intro j b' hj;obtain⟨_,h1⟩:=hex j b' hj;exact h.mine.box j _ h1}
theorem Rw.setArr (h:Rw z g bx ar w){r:Nat}{sz:Nat}{ty:TypeId}{xs xs':List D}(hr:ar r=some (sz,ty,xs)){c c0:Array Value}(n:Set1 w w' (g.α r).1 (.cells c (tyo ty) (0,0)))
  (hle:xs.length<=xs'.length)(hc:qkf g.Φ sz (g.α r).2 xs' c)(h0:w.heap[(g.α r).1]?=some (.cells c0 (tyo ty) (0,0)))(hpre:1000000<=ty->∀o,o<xs.length*sz->c[o]?=c0[o]?):
  Gh.le g {g with len:=upd r (some xs'.length) g.len}/\Rw z {g with len:=upd r (some xs'.length) g.len} bx (put r (sz,ty,xs') ar) w':=by
 have hlen:=h.wd.len r;rw[hr]at hlen;have hl:Gh.le g {g with len:=upd r (some xs'.length) g.len}:=by{refine⟨rfl,Phi.le_refl _,fun r' m' hm=>?_⟩;by_cases e:r'=r;{subst e;simp only[qzv,Option.some.injEq]at hm;subst hm;exact⟨_,hlen,hle,fun _=>rfl⟩};{simp only[qzB _ _ e]at hm;exact⟨m',hm,Nat.le_refl _,fun _=>rfl⟩}};have hgeta:∀r' a,put r (sz,ty,xs') ar r'=some a->(r'=r/\a=(sz,ty,xs'))\/(r'≠r/\ar r'=some a):=by{intro r' a hr';by_cases e:r'=r;{subst e;rw[qz7]at hr';exact .inl ⟨rfl,by simpa using hr'.symm⟩};{rw[qzV _ _ e]at hr';exact .inr ⟨e,hr'⟩}};have hex:∀r' a,put r (sz,ty,xs') ar r'=some a->∃a₀,ar r'=some a₀:=by{intro r' a hr';rcases hgeta r' a hr' with⟨rfl,_⟩|⟨_,h1⟩;exact⟨_,hr⟩;exact⟨_,h1⟩};refine⟨hl,⟨?_,?_,?_,?_,h.wd.inj,?_,?_,h.wd.outb,?_⟩,h.fr.set n (h.mine.arr r _ hr),⟨h.mine.box,?_,h.mine.le,h.mine.fix⟩,h.keys⟩;{intro k b hk;obtain⟨us,hus,hh,hone⟩:=h.wd.box k b hk;exact⟨us,hus.mono hl,by rw[n.old _ (h.wd.injb k r _ _ hk hr)];exact hh,hone⟩};{intro r' sz' ty' ys hr';rcases hgeta r' _ hr' with⟨rfl,e⟩|⟨e,h1⟩;{simp only[Prod.mk.injEq]at e;obtain⟨rfl,rfl,rfl⟩:=e;obtain⟨us,h1,h2,h3,h4,h5,h6⟩:=hc;exact⟨us,c,h1,n.new,h2,h3,h4,h5,h6⟩};{obtain⟨us,c',h2,h3,h4⟩:=h.wd.arr r' sz' ty' ys h1;exact⟨us,c',h2,by rw[n.old _ (fun e'=>e (h.wd.inja r' r _ _ h1 hr e'))];exact h3,h4⟩}};{intro r';by_cases e:r'=r;{subst e;simp only[qzv,qz7,Option.map_some]};{simp only[qzB _ _ e,qzV _ _ e];exact h.wd.len r'}};{refine⟨fun b' o v hv=>?_,h.wd.glo⟩;by_cases e:b'=(g.α r).1;{subst e;have hlt:1000000<=ty:=by{rcases Nat.lt_or_ge ty 1000000 with h'|h';{have:=h.wd.outa r _ o hr (fun e=>absurd h' (Nat.not_lt.2 e));rw[this]at hv;cases hv};exact h'};have ho:o<xs.length*sz:=by{rcases Nat.lt_or_ge o (xs.length*sz)with h'|h';exact h';{have:=h.wd.outa r _ o hr (fun _=>h');rw[this]at hv;cases hv}};obtain⟨e1,e2⟩:=h.wd.fix _ o v hv;refine⟨?_,e2⟩;simp only[World.cell?,h0,Option.isSome_none,Bool.false_eq_true,if_false]at e1;simp only[World.cell?,n.new,Option.isSome_none,Bool.false_eq_true,if_false];rw[hpre hlt o ho];exact e1};{rw[qq1 (n.old b' e)];exact h.wd.fix b' o v hv}};{intro r1 r2 a a' h1 h2 he;obtain⟨_,h1⟩:=hex r1 a h1;obtain⟨_,h2⟩:=hex r2 a' h2;exact h.wd.inja r1 r2 _ _ h1 h2 he};{intro k r' b a hk hr';obtain⟨_,h1⟩:=hex r' a hr';exact h.wd.injb k r' b _ hk h1};{intro r' a o hr' ho;rcases hgeta r' a hr' with⟨rfl,rfl⟩|⟨_,h1⟩;exact h.wd.outa r' _ o hr (fun e=>Nat.le_trans (Nat.mul_le_mul_right _ hle) (ho e));exact h.wd.outa r' _ o h1 ho};{intro r' a hr';obtain⟨_,h1⟩:=hex r' a hr';exact h.mine.arr r' _ h1}
theorem Rw.regrow (h:Rw z g bx ar w){r:Nat}{sz cap:Nat}{ty:TypeId}{xs xs':List D}(hr:ar r=some (sz,ty,xs)){c:Array Value}(n:New w w' (.cells c (tyo ty) (0,0)))
  (hle:xs.length<xs'.length)(hc:qkf g.Φ sz cap xs' c):
  Gh.le g {g with α:=upd r (w.heap.size,cap) g.α,len:=upd r (some xs'.length) g.len}/\
  Rw z {g with α:=upd r (w.heap.size,cap) g.α,len:=upd r (some xs'.length) g.len} bx (put r (sz,ty,xs') ar) w':=by
 have hlen:=h.wd.len r;rw[hr]at hlen;have hl:Gh.le g {g with α:=upd r (w.heap.size,cap) g.α,len:=upd r (some xs'.length) g.len}:=by{refine⟨rfl,Phi.le_refl _,fun r' m' hm=>?_⟩;by_cases e:r'=r;{subst e;simp only[qzv,Option.some.injEq]at hm;subst hm;exact⟨_,hlen,Nat.le_of_lt hle,fun e=>by simp only at e;omega⟩};{simp only[qzB _ _ e]at hm;exact⟨m',hm,Nat.le_refl _,fun _=>qzB _ _ e⟩}};have hgeta:∀r' a,put r (sz,ty,xs') ar r'=some a->(r'=r/\a=(sz,ty,xs'))\/(r'≠r/\ar r'=some a):=by{intro r' a hr';by_cases e:r'=r;{subst e;rw[qz7]at hr';exact .inl ⟨rfl,by simpa using hr'.symm⟩};{rw[qzV _ _ e]at hr';exact .inr ⟨e,hr'⟩}};refine⟨hl,⟨?_,?_,?_,?_,h.wd.inj,?_,?_,h.wd.outb,?_⟩,h.fr.new n,⟨h.mine.box,?_,h.mine.le,h.mine.fix⟩,h.keys⟩;{intro k b hk;obtain⟨us,hus,hh,hone⟩:=h.wd.box k b hk;exact⟨us,hus.mono hl,by rw[n.old _ (qqb hh)];exact hh,hone⟩};{intro r' sz' ty' ys hr';rcases hgeta r' _ hr' with⟨rfl,e⟩|⟨e,h1⟩;{simp only[Prod.mk.injEq]at e;obtain⟨rfl,rfl,rfl⟩:=e;obtain⟨us,h1,h2,h3,h4,h5,h6⟩:=hc;exact⟨us,c,h1,by simp only[qzv];exact n.new,by simp only[qzv];exact h2,by simp only[qzv];exact h3,h4,by simp only[qzv];exact h5,h6⟩};{obtain⟨us,c',h2,h3,h4⟩:=h.wd.arr r' sz' ty' ys h1;refine⟨us,c',h2,?_,?_⟩;{simp only[qzB _ _ e];rw[n.old _ (qqb h3)];exact h3};{simpa only[qzB _ _ e]using h4}}};{intro r';by_cases e:r'=r;{subst e;simp only[qzv,qz7,Option.map_some]};{simp only[qzB _ _ e,qzV _ _ e];exact h.wd.len r'}};{refine⟨fun b' o v hv=>?_,h.wd.glo⟩;rw[qq1 (n.old b' (h.wd.lt_fix hv))];exact h.wd.fix b' o v hv};{intro r1 r2 a a' h1 h2 he;rcases hgeta r1 a h1 with⟨rfl,_⟩|⟨e,q1⟩<;>rcases hgeta r2 a' h2 with⟨rfl,_⟩|⟨e',q2⟩;rfl;{simp only[qzv,qzB _ _ e']at he;have:=h.wd.lt_arr q2;omega};{simp only[qzv,qzB _ _ e]at he;have:=h.wd.lt_arr q1;omega};{simp only[qzB _ _ e,qzB _ _ e']at he;exact h.wd.inja r1 r2 a a' q1 q2 he}};{intro k r' b a hk hr';rcases hgeta r' a hr' with⟨rfl,_⟩|⟨e,h1⟩;{simp only[qzv];have:=h.wd.lt_box hk;omega};{simp only[qzB _ _ e];exact h.wd.injb k r' b _ hk h1}};{intro r' a o hr' ho;rcases hgeta r' a hr' with⟨rfl,_⟩|⟨e,h1⟩;{simp only[qzv];exact h.wd.fix_none (Nat.le_refl _)};{simp only[qzB _ _ e];exact h.wd.outa r' a o h1 ho}};{intro r' a hr';rcases hgeta r' a hr' with⟨rfl,_⟩|⟨e,h1⟩;{simp only[qzv];exact .inr h.fr.size};{simp only[qzB _ _ e];exact h.mine.arr r' a h1}}
theorem Rw.freeze (h:Rw z g bx ar w){r:Nat}{sz:Nat}{ty:TypeId}{xs:List D}(hr:ar r=some (sz,ty,xs)):
  ∃g',Gh.le g g'/\g'.β=g.β/\Rw z g' (mapf (Box.fz r xs.length (.sl sz xs false)) bx) (del r ar) w/\∀sz' v,LRp g (.os r sz' xs.length) v->Rp g'.Φ (.sl sz xs false) v:=by
 have hlen:=h.wd.len r;rw[hr]at hlen;obtain⟨us,c,h1,h2,h3,h4,h5,h6,h7⟩:=h.wd.arr r sz ty xs hr;have hle:Phi.le g.Φ (phi1 (g.α r).1 (xs.length*sz) c g.Φ):=by{intro b o v hv;unfold phi1;by_cases e:b=(g.α r).1/\o<xs.length*sz;{rw[if_pos e];have:=(h.wd.fix b o v hv).1;rw[e.1]at this;simpa[World.cell?,h2]using this};{rw[if_neg e];exact hv}};have hl:Gh.le g {g with Φ:=phi1 (g.α r).1 (xs.length*sz) c g.Φ,len:=upd r none g.len}:=by{refine⟨rfl,hle,fun r' m' hm=>?_⟩;by_cases e:r'=r;{subst e;simp only[qzv]at hm;cases hm};{simp only[qzB _ _ e]at hm;exact⟨m',hm,Nat.le_refl _,fun _=>rfl⟩}};have hRp:∀sz' v,LRp g (.os r sz' xs.length) v->Rp (phi1 (g.α r).1 (xs.length*sz) c g.Φ) (.sl sz xs false) v:=by{intro sz' v hv;cases hv with|os h0 hv=>{have hx:=(hv _ hlen).2 rfl;subst hx;by_cases hn:xs=[];{subst hn;exact .sl0 _ _ _ _ (fun e=>by cases e) (fun e=>by cases e)};{refine .sl (us:=us) _ 0 _ hn (h1.mono hle) (fun i u hu=>(h7 i u hu).1) (fun i u hu j x hj=>?_) h4 (fun e=>by cases e);obtain⟨e1,_,e3⟩:=h7 i u hu;have hi:i<xs.length:=by{rw[h1.length];exact(List.getElem?_eq_some_iff.1 hu).1};have hj':j<sz:=by{rw[<-e1];exact(Array.getElem?_eq_some_iff.1 hj).1};have hlt:i*sz+j<xs.length*sz:=by{have:(i+1)*sz<=xs.length*sz:=Nat.mul_le_mul_right _ hi;rw[Nat.add_mul]at this;omega};simp only[phi1,Nat.zero_add,true_and,hlt,if_true];exact e3 j x hj}}};refine⟨_,hl,rfl,⟨⟨?_,?_,?_,?_,?_,?_,?_,?_,?_⟩,h.fr,⟨?_,?_,Phi.le_trans h.mine.le hle,?_⟩,h.keys⟩,?_⟩;{intro k b hk;obtain⟨b,hk1,rfl⟩:=qq7 hk;obtain⟨us,hus,hh⟩:=h.wd.box k b hk1;exact⟨us,hus.fzs hl hRp,hh⟩};{intro r' sz' ty' ys hr';obtain⟨us,c',h1,h2⟩:=h.wd.arr r' sz' ty' ys (qxy hr').2;exact⟨us,c',h1.mono hle,h2⟩};{intro r';by_cases e:r'=r;{subst e;simp[qzv,del]};{simp only[qzB _ _ e,del,if_neg e];exact h.wd.len r'}};{refine⟨fun b o v hv=>?_,qvZ h.wd.glo hle⟩;simp only[phi1]at hv;split at hv;{rename_i hb;obtain⟨rfl,ho⟩:=hb;refine⟨by simp only[World.cell?,h2];simpa using hv,?_⟩;have hd:o /sz<xs.length:=Nat.div_lt_of_lt_mul (by rw[Nat.mul_comm];exact ho);obtain⟨u,hu,_⟩:=h1.get (lD hd);obtain⟨e1,e2,e3⟩:=h7 _ u hu;have hm:o%sz<u.cells.size:=by{rw[e1];exact Nat.mod_lt _ h5};have:=e3 (o%sz) _ (Array.getElem?_eq_getElem hm);rw[Nat.mul_comm,Nat.div_add_mod]at this;rw[this]at hv;simp only[Option.some.injEq]at hv;subst hv;exact e2 _ (Array.getElem_mem hm)};exact h.wd.fix b o v hv};{intro k k' b b' hk hk' he;obtain⟨b,hk1,rfl⟩:=qq7 hk;obtain⟨b',hk1',rfl⟩:=qq7 hk';exact h.wd.inj k k' b b' hk1 hk1' he};{intro r1 r2 a a' h1 h2 he;exact h.wd.inja r1 r2 a a' (qxy h1).2 (qxy h2).2 he};{intro k r' b a hk hr';obtain⟨b,hk1,rfl⟩:=qq7 hk;exact h.wd.injb k r' b a hk1 (qxy hr').2};{intro k b o hk;obtain⟨b,hk1,rfl⟩:=qq7 hk;have:g.β k≠(g.α r).1:=h.wd.injb k r b _ hk1 hr;simp only[phi1,this,false_and,if_false];exact h.wd.outb k b o hk1};{intro r' a o hr' ho;obtain⟨e,h1⟩:=qxy hr';have:(g.α r').1≠(g.α r).1:=fun e'=>e (h.wd.inja r' r _ _ h1 hr e');simp only[phi1,this,false_and,if_false];exact h.wd.outa r' a o h1 ho};{intro k b hk;obtain⟨b,hk1,rfl⟩:=qq7 hk;exact h.mine.box k b hk1};{intro r' a hr';exact h.mine.arr r' a (qxy hr').2};{intro b o v hv;simp only[phi1]at hv;split at hv;{rename_i hb;rcases h.mine.arr r _ hr with h'|h';exact .inr (.inl (by rw[hb.1];exact h'));exact .inr (.inr (by rw[hb.1];exact h'))};exact h.mine.fix b o v hv};exact hRp
theorem Rw.lend (h:Rw z g bx ar w){r:Nat}{sz:Nat}{ty:TypeId}{xs:List D}(hr:ar r=some (sz,ty,xs)):
  ∃g',Gh.le g g'/\g'.β=g.β/\Rw z g' bx (put r (sz,lnt ty,xs) ar) w/\∀sz' v,LRp g (.os r sz' xs.length) v->Rp g'.Φ (.sl sz xs false) v:=by
 have hlen:=h.wd.len r;rw[hr]at hlen;obtain⟨us,c,h1,h2,h3,h4,h5,h6,h7⟩:=h.wd.arr r sz ty xs hr;have hle:Phi.le g.Φ (phi1 (g.α r).1 (xs.length*sz) c g.Φ):=by{intro b o v hv;unfold phi1;by_cases e:b=(g.α r).1/\o<xs.length*sz;{rw[if_pos e];have:=(h.wd.fix b o v hv).1;rw[e.1]at this;simpa[World.cell?,h2]using this};{rw[if_neg e];exact hv}};have hl:Gh.le g {g with Φ:=phi1 (g.α r).1 (xs.length*sz) c g.Φ}:=⟨rfl,hle,fun r' m' hm=>⟨m',hm,Nat.le_refl _,fun _=>rfl⟩⟩;have hRp:∀sz' v,LRp g (.os r sz' xs.length) v->Rp (phi1 (g.α r).1 (xs.length*sz) c g.Φ) (.sl sz xs false) v:=by{intro sz' v hv;cases hv with|os h0 hv=>{have hx:=(hv _ hlen).2 rfl;subst hx;by_cases hn:xs=[];{subst hn;exact .sl0 _ _ _ _ (fun e=>by cases e) (fun e=>by cases e)};{refine .sl (us:=us) _ 0 _ hn (h1.mono hle) (fun i u hu=>(h7 i u hu).1) (fun i u hu j x hj=>?_) h4 (fun e=>by cases e);obtain⟨e1,_,e3⟩:=h7 i u hu;have hi:i<xs.length:=by{rw[h1.length];exact(List.getElem?_eq_some_iff.1 hu).1};have hj':j<sz:=by{rw[<-e1];exact(Array.getElem?_eq_some_iff.1 hj).1};have hlt:i*sz+j<xs.length*sz:=by{have:(i+1)*sz<=xs.length*sz:=Nat.mul_le_mul_right _ hi;rw[Nat.add_mul]at this;omega};simp only[phi1,Nat.zero_add,true_and,hlt,if_true];exact e3 j x hj}}};have hgeta:∀r' a,put r (sz,lnt ty,xs) ar r'=some a->(r'=r/\a=(sz,lnt ty,xs))\/(r'≠r/\ar r'=some a):=by{intro r' a hr';by_cases e:r'=r;{subst e;rw[qz7]at hr';exact .inl ⟨rfl,by simpa using hr'.symm⟩};{rw[qzV _ _ e]at hr';exact .inr ⟨e,hr'⟩}};have hex:∀r' a,put r (sz,lnt ty,xs) ar r'=some a->∃a₀,ar r'=some a₀:=by{intro r' a hr';rcases hgeta r' a hr' with⟨rfl,_⟩|⟨_,h1⟩;exact⟨_,hr⟩;exact⟨_,h1⟩};refine⟨_,hl,rfl,⟨⟨?_,?_,?_,?_,h.wd.inj,?_,?_,?_,?_⟩,h.fr,⟨h.mine.box,?_,Phi.le_trans h.mine.le hle,?_⟩,h.keys⟩,?_⟩;{intro k b hk;obtain⟨us,hus,hh⟩:=h.wd.box k b hk;exact⟨us,hus.mono hl,hh⟩};{intro r' sz' ty' ys hr';rcases hgeta r' _ hr' with⟨rfl,e⟩|⟨e,h1'⟩;{simp only[Prod.mk.injEq]at e;obtain⟨rfl,rfl,rfl⟩:=e;rw[qzq];exact⟨us,c,h1.mono hle,h2,h3,h4,h5,h6,h7⟩};{obtain⟨us,c',h1,h2⟩:=h.wd.arr r' sz' ty' ys h1';exact⟨us,c',h1.mono hle,h2⟩}};{intro r';by_cases e:r'=r;{subst e;rw[qz7];exact hlen};{rw[qzV _ _ e];exact h.wd.len r'}};{refine⟨fun b o v hv=>?_,qvZ h.wd.glo hle⟩;simp only[phi1]at hv;split at hv;{rename_i hb;obtain⟨rfl,ho⟩:=hb;refine⟨by simp only[World.cell?,h2];simpa using hv,?_⟩;have hd:o /sz<xs.length:=Nat.div_lt_of_lt_mul (by rw[Nat.mul_comm];exact ho);obtain⟨u,hu,_⟩:=h1.get (lD hd);obtain⟨e1,e2,e3⟩:=h7 _ u hu;have hm:o%sz<u.cells.size:=by{rw[e1];exact Nat.mod_lt _ h5};have:=e3 (o%sz) _ (Array.getElem?_eq_getElem hm);rw[Nat.mul_comm,Nat.div_add_mod]at this;rw[this]at hv;simp only[Option.some.injEq]at hv;subst hv;exact e2 _ (Array.getElem_mem hm)};exact h.wd.fix b o v hv};{intro r1 r2 a a' h1 h2 he;obtain⟨_,h1⟩:=hex r1 a h1;obtain⟨_,h2⟩:=hex r2 a' h2;exact h.wd.inja r1 r2 _ _ h1 h2 he};{intro k r' b a hk hr';obtain⟨_,h1⟩:=hex r' a hr';exact h.wd.injb k r' b _ hk h1};{intro k b o hk;have:g.β k≠(g.α r).1:=h.wd.injb k r b _ hk hr;simp only[phi1,this,false_and,if_false];exact h.wd.outb k b o hk};{intro r' a o h1 ho;rcases hgeta r' a h1 with⟨rfl,rfl⟩|⟨e,h1⟩;{have ho':xs.length*sz<=o:=ho (yqM ty);have:¬(o<xs.length*sz):=Nat.not_lt.2 ho';simp only[phi1,this,and_false,if_false];exact h.wd.outa r' _ o hr (fun _=>ho')};{have:(g.α r').1≠(g.α r).1:=fun e'=>e (h.wd.inja r' r _ _ h1 hr e');simp only[phi1,this,false_and,if_false];exact h.wd.outa r' a o h1 ho}};{intro r' a hr';obtain⟨_,h1⟩:=hex r' a hr';exact h.mine.arr r' _ h1};{intro b o v hv;simp only[phi1]at hv;split at hv;{rename_i hb;rcases h.mine.arr r _ hr with h'|h';exact .inr (.inl (by rw[hb.1];exact h'));exact .inr (.inr (by rw[hb.1];exact h'))};exact h.mine.fix b o v hv};exact hRp
end
abbrev Ar1:=Option (Nat×TypeId×List D)
abbrev qzP:=List LV->Bx->(LV->Bx->Ar1->Prop)->(D->Bx->Prop)->Prop
abbrev qvA:=List LV->Bx->Ar->(LV->Bx->Ar->Prop)->(D->Bx->Prop)->Prop
inductive SpecX where
 |a (Sp:qzP)
 |b (Sp:qvA)
 |c (Sp:qzP)
instance :Coe qzP SpecX:=⟨.a⟩
def dOk (s:S):Option Tmp->Prop
 |none=>True
 |some d=>d<s.n
def S.pt (s:S)(d:Option Tmp)(x:LV):S:=
 match d with
 |none=>s
 |some d=>{s with tm:=put d x s.tm}
def frz1 (s:S)(x:LV)(K:D->S->Prop):Prop:=
 match x with
 |.d x=>K x s
 |.os r sz n=>sm (s.ar r) fun a=>a.1=sz/\n=a.2.2.length/\K (.sl sz a.2.2 false) {s with bx:=mapf (Box.fz r n (.sl sz a.2.2 false)) s.bx,ar:=del r s.ar}
 |_=>False
def frzs (s:S):List LV->(List D->S->Prop)->Prop
 |[],K=>K [] s
 |x::xs,K=>frz1 s x fun d s'=>frzs s' xs fun ds s''=>K (d::ds) s''
def frz (s:S)(x:LV)(K:D->S->Prop):Prop:=
 match x with
 |.ag xs=>frzs s xs fun ds s'=>K (.ag ds) s'
 |x=>frz1 s x K
def qwY (s:S)(x:LV)(K:LV->S->Prop):Prop:=
 match x with
 |.bp k o=>K (.bp k o) s
 |.fn f xs ys=>K (.fn f xs ys) s
 |.ep x o=>K (.ep x o) s
 |.mp k=>K (.mp k) s
 |x=>frz s x fun d s'=>K (.d d) s'
def frzA (s:S):List LV->(List LV->S->Prop)->Prop
 |[],K=>K [] s
 |x::xs,K=>qwY s x fun y s'=>frzA s' xs fun ys s''=>K (y::ys) s''
mutual
def kys:LV->List Nat
 |.bp k _=>[k]
 |.mp k=>[k]
 |.ag xs=>kyss xs
 |.fn _ xs ys=>kyss xs++kyss ys
 |.tup xs=>kyss xs
 |_=>[]
def kyss:List LV->List Nat
 |[]=>[]
 |x::xs=>kys x++kyss xs
end
def ixof (k:Nat):List Nat->Nat
 |[]=>0
 |j::l=>if k=j then 0 else ixof k l+1
def nodup:List Nat->Bool
 |[]=>true
 |k::l=> !(l.contains k)&&nodup l
def ddp:List Nat->List Nat
 |[]=>[]
 |k::l=>if l.contains k then ddp l else k::ddp l
theorem qvw {k:Nat}:∀{l:List Nat},k∈l->k∈ddp l
 |j::l,h=>by
  unfold ddp;cases h with|head=>{split;{rename_i e;exact qvw (by simpa using e)};{simp}}|tail _ h=>{split;exact qvw h;exact List.mem_cons_of_mem _ (qvw h)}
mutual
def ren (ks:List Nat):LV->LV
 |.d x=>.d x
 |.ep x off=>.ep x off
 |.bp k off=>.bp (1000+ixof k ks) off
 |.mp k=>.mp (1000+ixof k ks)
 |.fn f xs ys=>.fn f (rens ks xs) (rens ks ys)
 |.ag xs=>.ag (rens ks xs)
 |.tup xs=>.tup (rens ks xs)
 |_=>.un
def rens (ks:List Nat):List LV->List LV
 |[]=>[]
 |x::xs=>ren ks x::rens ks xs
end
def nth (l:List Nat)(n:Nat):Option Nat:=l[n]?
def fp (ks:List Nat)(bx:Bx):Bx:=fun j=>if 1000<=j then(nth ks (j-1000)).bind bx else none
def mrg (ks:List Nat)(bx' bx:Bx):Bx:=fun k=>if ks.contains k then bx' (1000+ixof k ks)else bx k
def okB (bx:Bx):List Nat->Prop
 |[]=>True
 |k::ks=>(sm (bx k) fun b=>(allD b.cells).isSome=true)/\okB bx ks
mutual
def rn (o:Option Nat):LV->LV
 |.d x=>.d x
 |.ep x off=>.ep x off
 |.os r sz n=>if r=0 then(match o with
   |some d=>.os d sz n
   |none=>.un)else .un
 |.ag xs=>.ag (rns o xs)
 |.tup xs=>.tup (rns o xs)
 |_=>.un
def rns (o:Option Nat):List LV->List LV
 |[]=>[]
 |x::xs=>rn o x::rns o xs
end
def S.ret (s:S)(d:Option Tmp)(ks:List Nat)(x:LV)(bx':Bx)(a1:Ar1):S:=
 match a1,d with
 |some a,some d=>{n:=s.n,tm:=put d (rn (some d) x) (mapf (fgt d) s.tm),bx:=mapf (Box.fgt d) (mrg ks bx' s.bx),ar:=put d a s.ar}
 |_,d=>S.pt {s with bx:=mrg ks bx' s.bx} d (rn none x)
def wxw (Sp:qzP)(s:S)(d:Option Tmp)(args:List LV)(K:S->Prop)(Kp:D->S->Prop):Prop:=
 frzA s args fun aZ s'=>
   nodup (ddp (kyss aZ))=true/\okB s'.bx (ddp (kyss aZ))/\Sp (rens (ddp (kyss aZ)) aZ) (fp (ddp (kyss aZ)) s'.bx) (fun x bx' a1=>dOk s d/\K (s'.ret d (ddp (kyss aZ)) x bx' a1)) (fun p bx'=>Kp p {s' with bx:=mrg (ddp (kyss aZ)) bx' s'.bx})
def lnd1 (s:S)(x:LV)(K:D->S->Prop):Prop:=
 match x with
 |.d x=>K x s
 |.os r sz n=>sm (s.ar r) fun a=>a.1=sz/\n=a.2.2.length/\K (.sl sz a.2.2 false) {s with ar:=put r (a.1,lnt a.2.1,a.2.2) s.ar}
 |_=>False
def lnds (s:S):List LV->(List D->S->Prop)->Prop
 |[],K=>K [] s
 |x::xs,K=>lnd1 s x fun d s'=>lnds s' xs fun ds s''=>K (d::ds) s''
def lnd (s:S)(x:LV)(K:D->S->Prop):Prop:=
 match x with
 |.ag xs=>lnds s xs fun ds s'=>K (.ag ds) s'
 |x=>lnd1 s x K
def qwx (s:S)(x:LV)(K:LV->S->Prop):Prop:=
 match x with
 |.bp k o=>K (.bp k o) s
 |.fn f xs ys=>K (.fn f xs ys) s
 |.ep x o=>K (.ep x o) s
 |.mp k=>K (.mp k) s
 |.un=>K .un s
 |x=>lnd s x fun d s'=>K (.d d) s'
def lndA (s:S):List LV->(List LV->S->Prop)->Prop
 |[],K=>K [] s
 |x::xs,K=>qwx s x fun y s'=>lndA s' xs fun ys s''=>K (y::ys) s''
def cn (k c:Nat):Nat:=2000+64*k+c
def cnC (k:Nat):Nat->List LV->List LV
 |_,[]=>[]
 |c,x::l=>(match x with
  |.d x=>.d x
  |.os _ sz n=>.os (cn k c) sz n
  |_=>.un)::cnC k (c+1) l
def cnM (k:Nat):Nat->List LV->List (Nat×Nat)
 |_,[]=>[]
 |c,x::l=>match x with
  |.os r _ _=>(cn k c,r)::cnM k (c+1) l
  |_=>cnM k (c+1) l
def fp3 (bx:Bx):Nat->List Nat->Bx
 |_,[]=>nix
 |i,k::ks=>match bx k with
  |some b=>put (1000+i) ⟨cnC (1000+i) 0 b.cells,b.ty⟩ (fp3 bx (i+1) ks)
  |none=>fp3 bx (i+1) ks
def M3 (bx:Bx):Nat->List Nat->List (Nat×Nat)
 |_,[]=>[]
 |i,k::ks=>match bx k with
  |some b=>cnM (1000+i) 0 b.cells++M3 bx (i+1) ks
  |none=>M3 bx (i+1) ks
def pa3 (ar:Ar):List (Nat×Nat)->Ar
 |[]=>nix
 |(r',r)::l=>match ar r with
   |some a=>put r' a (pa3 ar l)
   |none=>del r' (pa3 ar l)
def N3 (bx':Bx):Nat->List Nat->List (Nat×Nat)
 |_,[]=>[]
 |i,k::ks=>match bx' (1000+i)with
  |some b=>cnM k 0 b.cells++N3 bx' (i+1) ks
  |none=>N3 bx' (i+1) ks
def bb3 (bx':Bx):Nat->List Nat->Bx->Bx
 |_,[],bx=>bx
 |i,k::ks,bx=>match bx' (1000+i)with
  |some b=>put k ⟨cnC k 0 b.cells,b.ty⟩ (bb3 bx' (i+1) ks bx)
  |none=>del k (bb3 bx' (i+1) ks bx)
def ab3 (ar':Ar):List (Nat×Nat)->Ar->Ar
 |[],ar=>ar
 |(r,r')::l,ar=>match ar' r' with
   |some a=>put r a (ab3 ar' l ar)
   |none=>del r (ab3 ar' l ar)
def fgM:List Nat->(Nat->Option LV)->Nat->Option LV
 |[],f=>f
 |r::l,f=>fgM l (mapf (fgt r) f)
def fgB:List Nat->Bx->Bx
 |[],f=>f
 |r::l,f=>fgB l (mapf (Box.fgt r) f)
def delL:List Nat->Ar->Ar
 |[],f=>f
 |r::l,f=>delL l (del r f)
def S.back (s:S)(d:Option Tmp)(M N:List (Nat×Nat))(ks:List Nat)(x:LV)(bx':Bx)(ar':Ar):S:=
 S.pt {n:=s.n,tm:=fgM (M.map (·.2)++N.map (·.1)) s.tm,bx:=bb3 bx' 0 ks (fgB (M.map (·.2)++N.map (·.1)) s.bx),ar:=ab3 ar' N (delL (M.map (·.2)) s.ar)} d (rn none x)
def wvB (Sp:qvA)(s:S)(d:Option Tmp)(args:List LV)(K:S->Prop)(Kp:D->S->Prop):Prop:=
 lndA s args fun aZ s=>nodup (ddp (kyss aZ))=true/\nodup ((M3 s.bx 0 (ddp (kyss aZ))).map (·.2))=true/\nodup ((M3 s.bx 0 (ddp (kyss aZ))).map (·.1))=true/\
  Sp (rens (ddp (kyss aZ)) aZ) (fp3 s.bx 0 (ddp (kyss aZ))) (pa3 s.ar (M3 s.bx 0 (ddp (kyss aZ))))
   (fun x bx' ar'=>dOk s d/\nodup ((N3 bx' 0 (ddp (kyss aZ))).map (·.1))=true/\nodup ((N3 bx' 0 (ddp (kyss aZ))).map (·.2))=true/\K (s.back d (M3 s.bx 0 (ddp (kyss aZ))) (N3 bx' 0 (ddp (kyss aZ))) (ddp (kyss aZ)) x bx' ar'))
   (fun p bx'=>N3 bx' 0 (ddp (kyss aZ))=[]/\Kp p (s.back none (M3 s.bx 0 (ddp (kyss aZ))) [] (ddp (kyss aZ)) .un bx' nix))
def dC:List LV->List LV
 |[]=>[]
 |x::xs=>(match x with
  |.d x=>.d x
  |_=>.un)::dC xs
def ovS (bx f:Bx):Bx:=fun j=>if 1000000<=j then(bx j).map fun b=>⟨dC b.cells,b.ty⟩else f j
def qj5 (ks:List Nat):Bool:=decide (ks.length<=900000)&&ks.all fun k=>decide (k<1000000)
def wvA (E:Env)(Sp:qzP)(s:S)(d:Option Tmp)(args:List LV)(K:S->Prop)(Kp:D->S->Prop):Prop:=
 E.hp=true/\frzA s args fun aZ s'=>nodup (ddp (kyss aZ))=true/\qj5 (ddp (kyss aZ))=true/\okB s'.bx (ddp (kyss aZ))/\
  Sp (rens (ddp (kyss aZ)) aZ) (ovS s'.bx (fp (ddp (kyss aZ)) s'.bx))
   (fun x bx' _=>dOk s d/\K (S.pt {s' with bx:=ovS bx' (mrg (ddp (kyss aZ)) bx' s'.bx)} d (rn none x))) (fun p bx'=>Kp p {s' with bx:=ovS bx' (mrg (ddp (kyss aZ)) bx' s'.bx)})
def wzw (E:Env)(sp:FuncId->Option SpecX)(s:S)(d:Option Tmp)(fv:LV)(args:List LV)(K:S->Prop)(Kp:D->S->Prop):Prop:=
 match fv with
 |.fn (.func f) first cap=>sm (sp f) fun X=>match X with
   |.a Sp=>wxw Sp s d (first++args++cap) K Kp
   |.b Sp=>wvB Sp s d (first++args++cap) K Kp
   |.c Sp=>wvA E Sp s d (first++args++cap) K Kp
 |_=>False
def stP (i:TI)(off:Nat)(x:LV)(cells:List LV):Option (List LV):=
 match pcs x with
 |some cs=>if cs.length=i.size/\off+cs.length<=cells.length/\cs.all one then some (cells.take off++cs++cells.drop (off+cs.length))else none
 |none=>none
def D.cs:D->List D
 |.ag xs=>xs
 |x=>[x]
def D.el (sz:Nat)(x:D):Bool:=x.flat&&x.cs.length==sz&&x.cs.all fun y=>one (.d y)
def storK0 (E:Env)(s:S)(t:TypeId)(p x:LV)(K:S->Prop):Prop:=
 sm (E.ti t) fun i=>
 match p with
 |.bp k off=>sm (s.bx k) fun b=>b.ty<1000000/\sm (stP i off x b.cells) fun cs=>K {s with bx:=put k ⟨cs,b.ty⟩ s.bx}
 |.ap r sz n j 0=>frz s x fun y s'=>sm (s'.ar r) fun a=>a.1=sz/\a.2.1<1000000/\i.size=sz/\n=a.2.2.length/\j<n/\y.el sz=true/\
    K {s' with ar:=put r (a.1,a.2.1,a.2.2.set j y) s'.ar}
 |.ap r sz n j o=>sm (s.ar r) fun a=>a.1=sz/\a.2.1<1000000/\i.size=1/\n=a.2.2.length/\j<n/\match x with
   |.d y=>one (.d y)=true/\y.flat=true/\sm a.2.2[j]? fun e=>match e with
     |.ag cs=>o<cs.length/\K {s with ar:=put r (a.1,a.2.1,a.2.2.set j (.ag (cs.set o y))) s.ar}
     |_=>False
   |_=>False
 |_=>False
def zxM (E:Env)(s:S)(t:TypeId)(p x:LV)(K:S->Prop):Prop:=
 match p.sp with
 |some q=>E.hp=true/\storK0 E s t (.bp (q.1+1000000) q.2) x K
 |none=>storK0 E s t p x K
def S.nS (s:S)(d b:Nat)(cs:List LV)(t:TypeId):S:=
 {n:=s.n,tm:=put d (.d (.imm (.pointer (some ⟨b,0,none⟩)))) s.tm,bx:=put (b+1000000) ⟨cs,t⟩ s.bx,ar:=s.ar}
def S.nSl (s:S)(d b n c:Nat)(cs:List LV)(t:TypeId)(bx:Bx):S:=
 {n:=s.n,tm:=put d (.d (.imm (.slice (some ⟨b,0,none⟩) n c))) s.tm,bx:=put (b+1000000) ⟨cs,t⟩ bx,ar:=s.ar}
def S.nb (s:S)(d:Nat)(cs:List LV)(t:TypeId):S:=
 {n:=s.n,tm:=put d (.bp d 0) (mapf (fgt d) s.tm),bx:=put d ⟨fgts d cs,t⟩ (mapf (Box.fgt d) s.bx),ar:=s.ar}
def boxK (E:Env)(s:S)(d:Option Tmp)(t:TypeId)(i:TI)(cs:List LV)(K:S->Prop):Prop:=
 match d with
 |some d=>d<s.n/\d<1000/\t<1000000/\cs.all one=true/\if E.st d then E.hp=true/\∀b,s.bx (b+1000000)=none->K (s.nS d b cs t)else K (s.nb d cs t)
 |none=>False
def S.na (s:S)(d:Nat)(sz:Nat)(t:TypeId)(xs:List D):S:=
 {n:=s.n,tm:=put d (.os d sz xs.length) (mapf (fgt d) s.tm),bx:=mapf (Box.fgt d) s.bx,ar:=put d (sz,t,xs) s.ar}
def frzE (s:S)(n:Nat):List (Nat×LV)->(List D->S->Prop)->Prop
 |[],K=>K [] s
 |(i,x)::xs,K=>i=n/\frz s x fun d s'=>frzE s' (n+1) xs fun ds s''=>K (d::ds) s''
def bslK (E:Env)(s:S)(d:Option Tmp)(t:TypeId)(len:Nat)(ps:List (Nat×Operand))(K:S->Prop):Prop:=
 sm (E.ti t) fun ti=>
 match ti.desc with
 |.sli e=>sm (E.ti e) fun te=>sm (s.evs ps) fun xs=>frzE s 0 xs fun ds s'=>ds.length=len/\ds.all (·.el te.size)=true/\0<te.size/\len*te.size<=16777216/\e<1000000/\
    match d with
    |some d=>d<s.n/\if E.own d then 0<len/\K (s'.na d te.size e ds)else K (s'.pt (some d) (.d (.sl te.size ds true)))
    |none=>False
 |_=>False
def appK0 (E:Env)(s:S)(d:Option Tmp)(t:TypeId)(x y:LV)(K:S->Prop):Prop:=
 sm (E.ti t) fun ti=>
 match ti.desc,d with
 |.sli e,some d=>sm (E.ti e) fun te=>0<te.size/\e<1000000/\d<s.n/\
   match y with
   |.d y=>sm (y.asl te.size) fun q=>
     match x with
     |.d x=>sm (x.asl te.size) fun p=>p.2=true/\p.1.length+q.1.length<=9223372036854775807/\(p.1.length+q.1.length)*te.bytes<=140737488355328/\
        (q.1=[]->K (s.pt (some d) (.d x)))/\(q.1≠[]->K (s.na d te.size e (p.1++q.1)))
     |.os r sz n=>sm (s.ar r) fun a=>a.1=te.size/\sz=te.size/\tyo a.2.1=e/\n=a.2.2.length/\n+q.1.length<=9223372036854775807/\(n+q.1.length)*te.bytes<=140737488355328/\
        K {s with ar:=put r (te.size,a.2.1,a.2.2++q.1) s.ar,tm:=put d (.os r sz (n+q.1.length)) s.tm}
     |_=>False
   |_=>False
 |_,_=>False
def elC (sz n c:Nat)(pre:List LV)(ys:List D):List LV:=pre++ys.flatMap D.lcs++List.replicate ((c-n)*sz) .un
def wvE (E:Env)(s:S)(d:Nat)(e:TypeId)(te:TI)(x:LV)(ys:List D)(K:S->Prop):Prop:=
 E.hp=true/\ys.all D.flat=true/\(vcs te.zero).all one=true/\match x.ss with
 |some p=>p.2.1=0/\sm (s.bx (p.1+1000000)) fun bb=>bb.ty=e/\p.2.2.2*te.size<=bb.cells.length/\(p.2.2.1+ys.length<=p.2.2.2->bb.cells.length=p.2.2.2*te.size)/\p.2.2.1<=p.2.2.2/\
   p.2.2.1+ys.length<=9223372036854775807/\(p.2.2.1+ys.length)*te.bytes<=140737488355328/\
   (ys=[]->K (s.pt (some d) x))/\
   (ys≠[]->∀b c,del (p.1+1000000) s.bx (b+1000000)=none->p.2.2.1+ys.length<=c->K (s.nSl d b (p.2.2.1+ys.length) c (elC te.size (p.2.2.1+ys.length) c (bb.cells.take (p.2.2.1*te.size)) ys) e (del (p.1+1000000) s.bx)))
 |none=>match x with
  |.d x=>sm (x.asl te.size) fun q=>q.1=[]/\q.2=true/\ys.length<=9223372036854775807/\ys.length*te.bytes<=140737488355328/\
    (ys=[]->K (s.pt (some d) (.d x)))/\(ys≠[]->∀b c,s.bx (b+1000000)=none->ys.length<=c->K (s.nSl d b ys.length c (elC te.size ys.length c [] ys) e s.bx))
  |_=>False
def wwA (E:Env)(s:S)(d:Nat)(e:TypeId)(te:TI)(x:LV)(y:D)(K:S->Prop):Prop:=match y with
 |.imm (.slice (some ⟨b,0,none⟩) n _)=>E.hp=true/\∃bb,s.bx (b+1000000)=some bb/\bb.ty=e/\∃ys:List D,ys.length=n/\ys.all (D.el te.size)=true/\bb.cells.take (n*te.size)=ys.flatMap D.lcs/\wvE E s d e te x ys K
 |y=>sm (y.asl te.size) fun q=>wvE E s d e te x q.1 K
def wwB (E:Env)(s:S)(d:Option Tmp)(t:TypeId)(x y:LV)(K:S->Prop):Prop:=
 if (d.map E.st).getD false then sm (E.ti t) fun ti=>
  match ti.desc,d with
  |.sli e,some d=>sm (E.ti e) fun te=>0<te.size/\e<1000000/\d<s.n/\match y with
    |.d y=>wwA E s d e te x y K
    |_=>False
  |_,_=>False
 else appK0 E s d t x y K
def cvD:Value->D
 |.agg cs=>.ag (cs.toList.map cvd)
 |v=>cvd v
def yqD (E:Env)(s:S)(d:Option Tmp)(t:TypeId)(l c:LV)(K:S->Prop):Prop:=
 sm (E.ti t) fun ti=>match l,c,ti.desc,d with
 |.d (.int _ n),.d (.int _ m),.sli e,some d=>sm (E.ti e) fun te=>n=m/\0<=n/\n<=16777216/\0<te.size/\te.bytes<=16777216/\e<1000000/\d<s.n/\(cvD te.zero).el te.size=true/\
    (n=0->K (s.pt (some d) (.d (.sl te.size [] true))))/\(n≠0->K (s.na d te.size e (List.replicate n.toNat (cvD te.zero))))
 |_,_,_,_=>False
def kof (i:TI):D->Bool
 |.int k _=>match i.desc with
   |.int k'=>decide (k=k')
   |_=>false
 |.st _=>match i.desc with
   |.str=>true
   |_=>false
 |_=>false
def keq:D->D->Bool
 |.int k a,.int k' b=>decide (k=k')&&a==b
 |.st a,.st b=>a==b
 |_,_=>false
def qkX (i:TI):List LV->Bool
 |[]=>true
 |.d k::_::r=>kof i k&&qkX i r
 |_=>false
def qkA (k:D):List LV->Option Nat
 |.d k'::_::r=>if keq k k' then some 0 else(qkA k r).map (· +1)
 |_=>none
def mset (cs:List LV)(k:D)(x:LV):List LV:=match qkA k cs with
 |some i=>cs.set (2*i+1) x
 |none=>cs++[.d k,x]
def wvk (E:Env)(s:S)(t:TypeId)(m k x:LV)(K:S->Prop):Prop:=
 sm (E.ti t) fun ti=>
 match ti.desc with
 |.map kt _=>sm (E.ti kt) fun ki=>match m,k with
   |.mp j,.d k=>sm (s.bx j) fun b=>b.ty=1000000/\kof ki k=true/\qkX ki b.cells=true/\one x=true/\K {s with bx:=put j ⟨mset b.cells k x,b.ty⟩ s.bx}
   |_,_=>False
 |_=>False
def S.nm (s:S)(d:Nat):S:={n:=s.n,tm:=put d (.mp d) (mapf (fgt d) s.tm),bx:=put d ⟨[],1000000⟩ (mapf (Box.fgt d) s.bx),ar:=s.ar}
def yqF (E:Env)(s:S)(d:Option Tmp)(K:S->Prop):Prop:=match d with
 |some d=>d<s.n/\d<1000/\if E.st d then E.hp=true/\∀b,s.bx (b+1000000)=none->K {n:=s.n,tm:=put d (.d (.imm (.map (some b)))) s.tm,bx:=put (b+1000000) ⟨[],1000000⟩ s.bx,ar:=s.ar}else K (s.nm d)
 |none=>False
def yqc (E:Env)(s:S)(d:Option Tmp)(t:TypeId)(x:LV)(K:S->Prop):Prop:=
 sm (E.ti t) fun ti=>
 match ti.desc with
 |.map _ _=>match x,d with
   |.mp j,some d=>sm (s.bx j) fun b=>b.ty=1000000/\d<s.n/\d<1000/\K (s.nb d [.mp j] (1000001+b.cells.length /2))
   |_,_=>False
 |_=>False
def qkN:List LV->Option (List Nat)
 |[]=>some []
 |.d (.int _ n)::r=>(qkN r).map (n.toNat:: ·)
 |_=>none
def jxA (s:S)(d:Option Tmp)(r j:Nat)(ty:TypeId)(cs:List LV)(seen:List Nat)(m:List LV)(K:S->Prop):Prop:=
 ∀i k v,i<m.length /2->i∉seen->m[2*i]?=some k->m[2*i+1]?=some v->K (S.pt {s with bx:=put r ⟨.mp j::(cs++[.d (.int .i64 i)]),ty⟩ s.bx} d (.tup [.d (.bool true),k,v]))
def jxB (s:S)(d:Option Tmp)(seen:List Nat)(m:List LV)(K:S->Prop):Prop:=
 (∀i,i<m.length /2->i∈seen)->K (s.pt d (.tup [.d (.bool false)]))
def yq8 (s:S)(d:Option Tmp)(it:LV)(K:S->Prop):Prop:=match it with
 |.bp r 0=>sm (s.bx r) fun b=>match b.cells with
   |.mp j::cs=>sm (qkN cs) fun seen=>sm (s.bx j) fun m=>m.ty=1000000/\b.ty=1000001+m.cells.length /2/\m.cells.length%2=0/\dOk s d/\jxA s d r j b.ty cs seen m.cells K/\jxB s d seen m.cells K
   |_=>False
 |_=>False
def yx4 (s:S)(d:Option Tmp)(it:LV)(K:S->Prop):Prop:=match it with
 |.bp r 0=>sm (s.bx r) fun b=>match b.cells with
   |.mp j::cs=>sm (qkN cs) fun seen=>sm seen.getLast? fun i=>sm (s.bx j) fun m=>m.ty=1000000/\b.ty=1000001+m.cells.length /2/\dOk s d/\sm m.cells[2*i]? fun k=>sm m.cells[2*i+1]? fun v=>K (s.pt d (.tup [k,v]))
   |_=>False
 |_=>False
def yvl (ok:Bool)(z:Value)(cs:List LV)(K:LV->Prop):Option Nat->Prop
 |some i=>sm cs[2*i+1]? fun v=>K (if ok then .tup [v,.d (.bool true)]else v)
 |none=>K (if ok then .tup [cv z,.d (.bool false)]else cv z)
def yqL (E:Env)(s:S)(t:TypeId)(m k:LV)(ok:Bool)(K:LV->Prop):Prop:=
 sm (E.ti t) fun ti=>
 match ti.desc with
 |.map kt vt=>sm (E.ti kt) fun ki=>sm (E.ti vt) fun vi=>match m,k with
   |.mp j,.d k=>sm (s.bx j) fun b=>b.ty=1000000/\kof ki k=true/\qkX ki b.cells=true/\yvl ok vi.zero b.cells K (qkA k b.cells)
   |_,_=>False
 |_=>False
def opK (E:Env)(sp:FuncId->Option SpecX)(o:Oper)(s:S)(K:S->Prop)(Kp:D->S->Prop):Prop:=
 match o.op with
 |.store t p x=>o.dst=none/\sm (s.ev p) fun p=>sm (s.ev x) fun x=>zxM E s t p x K
 |.alloc t=>sm (E.ti t) fun i=>boxK E s o.dst t i (vcs i.zero) K
 |.box t x=>sm (E.ti t) fun i=>sm (s.ev x) fun x=>sm (pcs x) fun cs=>boxK E s o.dst t i cs K
 |.buildSlice t len ps=>bslK E s o.dst t len ps.toList K
 |.call {callee:=.builtin .append,args,argTypes}=>match args.toList,argTypes.toList with
   |[x,y],[t,t']=>t=t'/\sm (s.ev x) fun x=>sm (s.ev y) fun y=>wwB E s o.dst t x y K
   |_,_=>False
 |.call {callee:=.value f,args,argTypes}=>sm (s.ev f) fun f=>sm (s.evs (args.toList.map fun x=>(0,x))) fun aZ=>wzw E sp s o.dst f (aZ.map (·.2)) K Kp
 |.panic x=>sm (s.ev x) fun x=>match x with
   |.d (.ifc t y)=>Kp (.ifc t y) s
   |_=>False
 |.makeMap _ none=>yqF E s o.dst K
 |.insert t m k x=>o.dst=none/\sm (s.ev m) fun m=>sm (s.ev k) fun k=>sm (s.ev x) fun x=>mvK E m fun m=>wvk E s t m k x K
 |.mapUpdate t m k x=>o.dst=none/\sm (s.ev m) fun m=>sm (s.ev k) fun k=>sm (s.ev x) fun x=>mvK E m fun m=>wvk E s t m k x K
 |.range t x=>sm (s.ev x) fun x=>yqc E s o.dst t x K
 |.next it false=>sm (s.ev it) fun it=>yq8 s o.dst it K
 |.entry it=>sm (s.ev it) fun it=>yx4 s o.dst it K
 |.lookup t m k ok=>sm (s.ev m) fun m=>sm (s.ev k) fun k=>mvK E m fun m=>yqL E s t m k ok fun x=>dOk s o.dst/\K (s.pt o.dst x)
 |.makeSlice t l c=>sm (s.ev l) fun l=>sm (s.ev c) fun c=>yqD E s o.dst t l c K
 |_=>valK E o.op s fun x=>dOk s o.dst/\K (s.pt o.dst x)
end Lx
