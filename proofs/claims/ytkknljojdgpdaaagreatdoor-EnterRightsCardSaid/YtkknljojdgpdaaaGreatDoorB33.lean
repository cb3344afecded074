import Derived.Test.YtkknljojdgpdaaaGreatDoorB27
set_option maxHeartbeats 32000000
set_option linter.unusedVariables false
set_option linter.unusedSimpArgs false
namespace Lg
def zkX (b:Nat):Sym:=⟨2,0,0,b⟩
def crt (nv nc:Nat):List Sym:=(List.range nv).map (fun i:Nat=>zxH ((i:Int)+1))++(List.range nc).map zkX
def cn (q:Sym->Bool)(h:Hp):Nat:=(crt (h.vars-1).toNat h.chunks.length).countP q
def ywh (h:Hp):List Sym:=h.chunks.flatMap Chk.cells
def al (q:Sym->Bool)(h:Hp):Nat:=(ywh h).countP q
def one1 (q:Sym->Bool)(s:Sym):Nat:=if q s then 1 else 0
theorem qzS {q:Sym->Bool}{s:Sym}{l:List Sym}:(s::l).countP q=one1 q s+l.countP q:=by
 rw[List.countP_cons];unfold one1;omega
theorem zk8 {q:Sym->Bool}{h:Hp}{p:Sym×Hp}(e:h.fresh=.ok p)(h1:1<=h.vars):cn q p.2=cn q h+one1 q p.1/\al q p.2=al q h/\1<=p.2.vars:=by
 rw[qxa e];refine⟨?_,rfl,by show 1<=h.vars+1;omega⟩;unfold cn crt;have:(h.vars+1-1).toNat=(h.vars-1).toNat+1:=by{omega};show((List.range (h.vars+1-1).toNat).map _++(List.range h.chunks.length).map zkX).countP q=_;rw[this,List.range_succ,List.map_append,List.countP_append,List.countP_append,List.countP_append];have e2:((List.map (fun i:Nat=>zxH ((i:Int)+1)) [(h.vars-1).toNat]).countP q)=one1 q (zxH h.vars):=by{rw[List.map_cons,List.map_nil,qzS,show(((h.vars-1).toNat:Nat):Int)+1=h.vars by omega];rfl};rw[e2];show _=_+one1 q (zxH h.vars);omega
theorem wzs {q:Sym->Bool}(h:Hp)(c:Chk):cn q (h.put c).2=cn q h+one1 q (h.put c).1/\al q (h.put c).2=al q h+c.cells.countP q:=by
 constructor;{unfold cn crt;show(_++(List.range (h.chunks++[c]).length).map zkX).countP q=_;rw[lC,List.length_singleton,List.range_succ,List.map_append,List.countP_append,List.countP_append,List.countP_append];have e2:((List.map zkX [h.chunks.length]).countP q)=one1 q (zkX h.chunks.length):=by{rw[List.map_cons,List.map_nil,qzS];rfl};rw[e2];show _=_+one1 q (zkX h.chunks.length);show List.countP q (List.map _ (List.range (h.vars-1).toNat))+_=_;omega};{unfold al ywh;show((h.chunks++[c]).flatMap Chk.cells).countP q=_;rw[List.flatMap_append,List.countP_append];simp}
theorem qwD {q:Sym->Bool}{h h':Hp}{fs:List (Int×Int×Int)}(e:h.assume fs=.ok h'):cn q h'=cn q h/\al q h'=al q h/\h'.vars=h.vars:=by
 rw[qqo e];exact⟨rfl,rfl,rfl⟩
theorem qwG {q:Sym->Bool}(hq:q qjC=false){out:Int}:∀{fs:List (Bs×Int)} {i:Nat} {h:Hp} {r:List Sym×Hp},qjj out i fs h=.ok r->1<=h.vars->cn q r.2=cn q h+r.1.countP q/\al q r.2=al q h/\1<=r.2.vars
 |[],i,h,r,e,h1=>by cases e;exact⟨by simp,rfl,h1⟩
 |f::fs,i,h,r,e,hv=>by
  unfold qjj at e;split at e;{obtain⟨p,h1,h2⟩:=qzA e;obtain⟨r,h3,h4⟩:=qzA h2;cases h4;obtain⟨a1,a2,a3⟩:=zk8 (q:=q) h1 hv;obtain⟨h5,h6,h7⟩:=qwG hq h3 a3;refine⟨?_,h6.trans a2,h7⟩;rw[qzS,h5,a1];omega};{obtain⟨r,h3,h4⟩:=qzA e;cases h4;obtain⟨h5,h6,h7⟩:=qwG hq h3 hv;refine⟨?_,h6,h7⟩;rw[qzS,h5];unfold one1;rw[hq];simp}
theorem zz3 {q:Sym->Bool}(hq:q qjC=false){s:Sym}:∀{l:List Sym} {i:Nat},l[i]?=some qjC->(l.set i s).countP q=l.countP q+one1 q s
 |[],i,h=>by simp at h
 |x::l,0,h=>by
  cases h;rw[List.set_cons_zero,qzS,qzS];unfold one1;rw[hq];simp;omega
 |x::l,i+1,h=>by
  have:=zz3 hq (s:=s) (l:=l) (i:=i) (by simpa using h);rw[List.set_cons_succ,qzS,qzS,this];omega
theorem qvK {q:Sym->Bool}{c':Chk}{n:Nat}:∀{l:List Chk} {b:Nat} {c:Chk},l[b]?=some c->c'.cells.countP q=c.cells.countP q+n->((l.set b c').flatMap Chk.cells).countP q=(l.flatMap Chk.cells).countP q+n
 |[],b,c,h,_=>by simp at h
 |x::l,0,c,h,hn=>by
  cases h;rw[List.set_cons_zero,List.flatMap_cons,List.flatMap_cons,List.countP_append,List.countP_append,hn];omega
 |x::l,b+1,c,h,hn=>by
  have:=qvK (n:=n) (c':=c') (l:=l) (b:=b) (by simpa using h) hn;rw[List.set_cons_succ,List.flatMap_cons,List.flatMap_cons,List.countP_append,List.countP_append,this];omega
theorem qv7 {q:Sym->Bool}(hq:q qjC=false){b:Nat}{kind:Int}:∀{fs:List (Bs×Int)} {i:Nat} {h h':Hp} {c:Chk},qxd b kind i fs h=.ok h'->h.chunks[b]?=some c->(∀(j:Nat) (f:Bs×Int),fs[j]?=some f->0<=f.2->c.cells[i+j]?=some qjC)->al q h'+cn q h=al q h+cn q h'/\h'.vars=h.vars
 |[],i,h,h',c,e,hc,_=>by cases e;exact⟨rfl,rfl⟩
 |f::fs,i,h,h',c,e,hc,hz=>by
  unfold qxd at e;have hz':∀(j:Nat) (g:Bs×Int),fs[j]?=some g->0<=g.2->c.cells[i+1+j]?=some qjC:=fun j g hg h0=>by{have:=hz (j+1) g (by simpa using hg) h0;rw[show i+1+j=i+(j+1) by omega];exact this};split at e;exact qv7 hq e hc hz';{rename_i hn;obtain⟨a,h1,h2⟩:=qzA e;have hc1:(h.put ⟨kind, -1, -1,true,false,true,cellAt h b f.2,[]⟩).2.chunks[b]?=some c:=qvs _ _ _ _ hc;have h0:=hz 0 f rfl (by omega);rw[Nat.add_zero]at h0;obtain⟨p1,p2⟩:=wzs (q:=q) h ⟨kind, -1, -1,true,false,true,cellAt h b f.2,[]⟩;obtain⟨a1,a2,a3⟩:=qwD (q:=q) h1;have hse:setCell (h.put ⟨kind, -1, -1,true,false,true,cellAt h b f.2,[]⟩).2 b i (h.put ⟨kind, -1, -1,true,false,true,cellAt h b f.2,[]⟩).1={(h.put ⟨kind, -1, -1,true,false,true,cellAt h b f.2,[]⟩).2 with chunks:=(h.put ⟨kind, -1, -1,true,false,true,cellAt h b f.2,[]⟩).2.chunks.set b {c with cells:=c.cells.set i (h.put ⟨kind, -1, -1,true,false,true,cellAt h b f.2,[]⟩).1}}:=by{unfold setCell;rw[hc1]};have hal:al q (setCell (h.put ⟨kind, -1, -1,true,false,true,cellAt h b f.2,[]⟩).2 b i (h.put ⟨kind, -1, -1,true,false,true,cellAt h b f.2,[]⟩).1)=al q (h.put ⟨kind, -1, -1,true,false,true,cellAt h b f.2,[]⟩).2+one1 q (h.put ⟨kind, -1, -1,true,false,true,cellAt h b f.2,[]⟩).1:=by{rw[hse];exact qvK hc1 (zz3 hq h0)};have hcn:cn q (setCell (h.put ⟨kind, -1, -1,true,false,true,cellAt h b f.2,[]⟩).2 b i (h.put ⟨kind, -1, -1,true,false,true,cellAt h b f.2,[]⟩).1)=cn q (h.put ⟨kind, -1, -1,true,false,true,cellAt h b f.2,[]⟩).2:=by{rw[hse];unfold cn;simp only[List.length_set]};have hav:a.vars=h.vars:=by{rw[a3,hse];rfl};have hca:a.chunks[b]?=some {c with cells:=c.cells.set i (h.put ⟨kind, -1, -1,true,false,true,cellAt h b f.2,[]⟩).1}:=by{rw[qqo h1];exact qjK hc1};obtain⟨r1,r2⟩:=qv7 hq h2 hca fun j g hg h0=>by{show(c.cells.set i _)[i+1+j]?=_;rw[List.getElem?_set_ne (by omega)];exact hz' j g hg h0};refine⟨?_,r2.trans hav⟩;have:List.countP q ([]:List Sym)=0:=rfl;simp only[this]at p2;omega}
theorem wz2 {q:Sym->Bool}(hq:q qjC=false){T:List Ty}{p:Par}{h:Hp}{r:(Sym×Sym)×Hp}(e:zz9 p T h=.ok r)(hv:1<=h.vars):al q r.2+one1 q r.1.1+cn q h=al q h+cn q r.2/\1<=r.2.vars:=by
 rw[Lx.zxA rfl rfl]at e;unfold restR at e;split at e;{rename_i h6;cases e;refine⟨?_,hv⟩;generalize hc:Chk.mk _ _ _ _ _ _ _ _=c;obtain⟨p1,p2⟩:=wzs (q:=q) h c;have hz:∀n,(List.replicate n qjC).countP q=0:=fun n=>by{rw[List.countP_replicate,hq];rfl};have:c.cells.countP q=0:=by{rw[<-hc];exact hz _};rw[this]at p2;show al q (h.put c).2+one1 q (h.put c).1+cn q h=al q h+cn q (h.put c).2;omega};{rename_i h6;obtain⟨c,h1,e⟩:=qzA e;obtain⟨h2,h3,e⟩:=qzA e;obtain⟨h4,h5,e⟩:=qzA e;obtain⟨h6',h7,e⟩:=qzA e;cases e;obtain⟨c1,c2,c3⟩:=qwG hq h1 hv;obtain⟨a1,a2,a3⟩:=qwD (q:=q) h3;have b4:cn q h4=cn q h2/\al q h4=al q h2/\h4.vars=h2.vars:=by{split at h5;exact qwD h5;{cases h5;exact⟨rfl,rfl,rfl⟩}};obtain⟨_,h9⟩:=qkc h1;obtain⟨r1,r2⟩:=qv7 hq h7 (zzj h4 _) (fun j f hf h0=>by{obtain⟨s,q1,q2⟩:=h9 j f hf;rw[if_neg (by omega)]at q2;show c.1[0+j]?=_;rw[Nat.zero_add,q1,q2]});generalize hc:Chk.mk _ _ _ _ _ _ _ _=k at r1 r2⊢;obtain⟨p1,p2⟩:=wzs (q:=q) h4 k;have hk:k.cells=c.1:=by{rw[<-hc]};rw[hk]at p2;refine⟨by show al q h6'+one1 q (h4.put k).1+cn q h=al q h+cn q h6';omega,?_⟩;rw[r2];show 1<=h4.vars;omega}
theorem qv6 {q:Sym->Bool}(hq:q qjC=false){T:List Ty}:∀{ps:List Par} {s s':Sta},1<=s.heap.vars->(s.vars.map Prod.snd).countP q+al q s.heap=cn q s.heap->qxP T ps s=.ok s'->(s'.vars.map Prod.snd).countP q+al q s'.heap=cn q s'.heap
 |[],s,s',_,h,e=>by cases e;exact h
 |p::ps,s,s',hv,h,e=>by
  unfold qxP at e;obtain⟨s1,h1,e⟩:=qzA e;unfold zxd at h1;split at h1;{obtain⟨r,h2,h3⟩:=qzA h1;cases h3;obtain⟨a1,a2,a3⟩:=zk8 (q:=q) h2 hv;refine qv6 hq a3 ?_ e;show((s.vars++[(p.name,r.1)]).map Prod.snd).countP q+al q r.2=cn q r.2;rw[List.map_append,List.countP_append,List.map_cons,List.map_nil,qzS,a1,a2];show _+(one1 q r.1+0)+_=_;omega};{obtain⟨r,h2,h3⟩:=qzA h1;cases h3;obtain⟨a1,a3⟩:=wz2 hq h2 hv;refine qv6 hq a3 ?_ e;show((s.vars++[(p.name,r.1.1)]).map Prod.snd).countP q+al q r.2=cn q r.2;rw[List.map_append,List.countP_append,List.map_cons,List.map_nil,qzS];show _+(one1 q r.1.1+0)+_=_;omega}
def yxJ (s:Sta):List Sym:=s.vars.map Prod.snd++ywh s.heap
def yxj (l:List Sym):List Int:=(l.filter fun s=>s.kind==1).map Sym.var
def wq0 (l:List Sym):List Int:=(l.filter fun s=>s.kind==2).map Sym.block
theorem qwo {f:Nat->Int}(hf:∀a b,f a=f b->a=b)(v:Int):∀n,(List.range n).countP (fun i=>f i==v)<=1/\(1<=(List.range n).countP (fun i=>f i==v)->∃i,i<n/\f i=v)
 |0=>⟨by simp,fun h=>by simp at h⟩
 |n+1=>by
  obtain⟨h1,h2⟩:=qwo hf v n;rw[List.range_succ,List.countP_append,List.countP_cons,List.countP_nil];by_cases hn:f n=v;{have:(List.range n).countP (fun i=>f i==v)=0:=by{by_cases h:1<=(List.range n).countP (fun i=>f i==v);{obtain⟨i,hi,he⟩:=h2 h;have:=hf _ _ (he.trans hn.symm);omega};omega};rw[this];refine⟨by split<;>omega,fun _=>⟨n,by omega,hn⟩⟩};{rw[if_neg (by simpa using hn)];refine⟨by omega,fun h=>?_⟩;obtain⟨i,hi,he⟩:=h2 (by omega);exact⟨i,by omega,he⟩}
theorem qvo {T:List Ty}{g:Sg}{s:Sta}(e:zkJ g T=.ok s){q:Sym->Bool}(hq:q qjC=false):(yxJ s).countP q=cn q s.heap:=by
 rw[yxJ,List.countP_append];exact qv6 hq (by decide) (by simp[al,ywh,cn,crt]) e
structure Apart (s:Sta):Prop where
 ints:∀(l r:List Sym) (x:Sym),yxJ s=l++x::r->x.kind=1->x.var∉yxj l/\x.k=0
 ptrs:∀(l r:List Sym) (x:Sym),yxJ s=l++x::r->x.kind=2->x.block∉wq0 l
 len:(wq0 (yxJ s)).length=s.heap.chunks.length
theorem wjt {T:List Ty}{g:Sg}{s:Sta}(e:zkJ g T=.ok s):Apart s where
 ints l r x hs hk:=by
  have h1:=qvo e (q:=fun y=>y.kind==1&&y.var==x.var) rfl;have h2:=qvo e (q:=fun y=>y.kind==1&& !(y.k==0)) rfl;have e1:cn (fun y=>y.kind==1&&y.var==x.var) s.heap<=1:=by{unfold cn crt;rw[List.countP_append,List.countP_map,List.countP_map];have a1:=(qwo (f:=fun i:Nat=>(i:Int)+1) (fun a b h=>by omega) x.var (s.heap.vars-1).toNat).1;have a2:List.countP ((fun y:Sym=>y.kind==1&&y.var==x.var)∘zkX) (List.range s.heap.chunks.length)=0:=List.countP_eq_zero.2 fun b _ h=>by{simp[zkX]at h};have a3:((fun y:Sym=>y.kind==1&&y.var==x.var)∘fun i:Nat=>zxH ((i:Int)+1))=fun i:Nat=>(i:Int)+1==x.var:=by{funext i;simp[zxH]};rw[a2,a3];omega};have e2:cn (fun y=>y.kind==1&& !(y.k==0)) s.heap=0:=List.countP_eq_zero.2 fun y hy h=>by{unfold crt at hy;rcases List.mem_append.1 hy with hy|hy<;>obtain⟨i,_,rfl⟩:=List.mem_map.1 hy<;>simp[zxH,zkX]at h};rw[hs]at h1 h2;rw[List.countP_append,qzS]at h1 h2;constructor;{intro hm;unfold yxj at hm;obtain⟨y,hy,hyv⟩:=List.mem_map.1 hm;obtain⟨hy1,hy2⟩:=List.mem_filter.1 hy;have a4:0<l.countP fun y=>y.kind==1&&y.var==x.var:=List.countP_pos_iff.2 ⟨y,hy1,by rw[hy2,hyv];simp⟩;have a5:one1 (fun y=>y.kind==1&&y.var==x.var) x=1:=by{simp[one1,hk]};omega};{by_cases h0:x.k=0;exact h0;{have a5:one1 (fun y=>y.kind==1&& !(y.k==0)) x=1:=by{simp[one1,hk,h0]};omega}}
 ptrs l r x hs hk hm:=by
  have h1:=qvo e (q:=fun y=>y.kind==2&&y.block==x.block) rfl;have e1:cn (fun y=>y.kind==2&&y.block==x.block) s.heap<=1:=by{unfold cn crt;rw[List.countP_append,List.countP_map,List.countP_map];have a1:=(qwo (f:=fun i:Nat=>(i:Int)) (fun a b h=>by omega) x.block s.heap.chunks.length).1;have a2:List.countP ((fun y:Sym=>y.kind==2&&y.block==x.block)∘fun i:Nat=>zxH ((i:Int)+1)) (List.range (s.heap.vars-1).toNat)=0:=List.countP_eq_zero.2 fun b _ h=>by{simp[zxH]at h};have a3:((fun y:Sym=>y.kind==2&&y.block==x.block)∘zkX)=fun i:Nat=>(i:Int)==x.block:=by{funext i;simp[zkX]};rw[a2,a3];omega};rw[hs,List.countP_append,qzS]at h1;unfold wq0 at hm;obtain⟨y,hy,hyv⟩:=List.mem_map.1 hm;obtain⟨hy1,hy2⟩:=List.mem_filter.1 hy;have a4:0<l.countP fun y=>y.kind==2&&y.block==x.block:=List.countP_pos_iff.2 ⟨y,hy1,by rw[hy2,hyv];simp⟩;have a5:one1 (fun y=>y.kind==2&&y.block==x.block) x=1:=by{simp[one1,hk]};omega
 len:=by
  have h1:=qvo e (q:=fun y=>y.kind==2) rfl;unfold wq0;rw[lE,<-List.countP_eq_length_filter,h1];unfold cn crt;rw[List.countP_append,List.countP_map,List.countP_map];have a2:List.countP ((fun y:Sym=>y.kind==2)∘fun i:Nat=>zxH ((i:Int)+1)) (List.range (s.heap.vars-1).toNat)=0:=List.countP_eq_zero.2 fun b _ h=>by{simp[zxH]at h};have a3:((fun y:Sym=>y.kind==2)∘zkX)=fun i:Nat=>true:=by{funext i;simp[zkX]};rw[a2,a3];simp
def Sm (h:Hp):Prop:=∀c∈h.chunks,c.cells.length<=8
theorem Sm.put {h:Hp}{c:Chk}(hh:Sm h)(hc:c.cells.length<=8):Sm (h.put c).2:=fun x hx=>by
 rcases List.mem_append.1 (show x∈h.chunks++[c] from hx)with hx|hx;exact hh x hx;{rw[List.mem_singleton.1 hx];exact hc}
theorem Sm.cell {h:Hp}(hh:Sm h)(b i:Nat)(s:Sym):Sm (setCell h b i s):=by
 unfold setCell;split;{rename_i c hc;intro x hx;rcases List.mem_or_eq_of_mem_set hx with hx|rfl;exact hh x hx;{simp only[List.length_set];exact hh _ (List.mem_of_getElem? hc)}};exact hh
theorem arraysR_sm {b:Nat}{kind:Int}:∀{fs:List (Bs×Int)} {i:Nat} {h h':Hp},qxd b kind i fs h=.ok h'->Sm h->Sm h'
 |[],i,h,h',e,hh=>by cases e;exact hh
 |f::fs,i,h,h',e,hh=>by
  unfold qxd at e;split at e;exact arraysR_sm e hh;{obtain⟨a,h1,h2⟩:=qzA e;refine arraysR_sm h2 ?_;rw[qqo h1];exact((hh.put (by simp)).cell _ _ _)}
theorem beginsR_sm {T:List Ty}{G:List Sg}(hT:LibOk T G):∀{ps:List Par} {s s':Sta},(∀p∈ps,zvv T.length p)->Sm s.heap->qxP T ps s=.ok s'->Sm s'.heap/\s'.heap.chunks.length<=s.heap.chunks.length+9*ps.length
 |[],s,s',_,hh,e=>by cases e;exact⟨hh,by simp⟩
 |p::ps,s,s',hp,hh,e=>by
  unfold qxP at e;obtain⟨s1,h1,e⟩:=qzA e;have hpp:=hp p (List.mem_cons_self ..);have hps:∀q∈ps,zvv T.length q:=fun q hq=>hp q (List.mem_cons_of_mem _ hq);unfold zxd at h1;split at h1;{obtain⟨q,h2,h3⟩:=qzA h1;cases h3;have h4:q.2.chunks=s.heap.chunks:=by{rw[qxa h2]};obtain⟨a1,a2⟩:=beginsR_sm hT hps (show Sm q.2 by unfold Sm;rw[h4];exact hh) e;refine⟨a1,?_⟩;have a3:s'.heap.chunks.length<=q.2.chunks.length+9*ps.length:=a2;rw[h4]at a3;rw[lB];omega};{rename_i hm;obtain⟨r,h2,h3⟩:=qzA h1;cases h3;have hl:=ww7 (fun t ht=>(hT.types t ht).nf) h2;have hu0:(qxS T p).fields.length<=8:=by{have ht:=qkM (hpp.2.2 hm);have hso:=(hT.types _ ht.1);unfold qxS qvN;split;{rename_i h4;obtain⟨h1,h2,_⟩:=hso.of4 h4;exact(hT.types _ (qkM ⟨h1,h2⟩).1).nf};exact hso.nf};have hsm:Sm r.2:=by{rw[Lx.zxA rfl rfl]at h2;have hu:(if(qxe T p.typ).sort=4 then qxe T (qxe T p.typ).of else qxe T p.typ)=qxS T p:=by{unfold qxS qvN;split<;>rfl};rw[hu]at h2;unfold restR at h2;split at h2;{cases h2;exact hh.put (by simpa using hu0)};{obtain⟨c,h5,h2⟩:=qzA h2;obtain⟨h6,h7,h2⟩:=qzA h2;obtain⟨h8,h9,h2⟩:=qzA h2;obtain⟨h10,h11,h2⟩:=qzA h2;cases h2;have hc:h8.chunks=s.heap.chunks:=by{have h8':h6.chunks=s.heap.chunks:=by{rw[qqo h7];exact qqS h5};split at h9;{rw[qqo h9];exact h8'};{cases h9;exact h8'}};refine arraysR_sm h11 (Sm.put (by unfold Sm;rw[hc];exact hh) ?_);show c.1.length<=8;rw[(qkc h5).1];exact hu0}};obtain⟨a1,a2⟩:=beginsR_sm hT hps (show Sm r.2 from hsm) e;refine⟨a1,?_⟩;have a3:s'.heap.chunks.length<=r.2.chunks.length+9*ps.length:=a2;rw[lB];omega}
theorem beginR_sm {T:List Ty}{G:List Sg}(hT:LibOk T G){g:Sg}(hg:∀p∈g.params,zvv T.length p){s:Sta}(e:zkJ g T=.ok s):Sm s.heap/\s.heap.chunks.length<=9*g.params.length:=by
 have:=beginsR_sm hT hg (fun c hc=>by cases hc) e;simpa using this
end Lg
