import Derived.Test.YtkknljojdgpdaaaGreatDoorB27
set_option maxHeartbeats 32000000
set_option linter.unusedVariables false
set_option linter.unusedSimpArgs false
namespace Lg
def zkC (n:Int):Int:=if -1099511627776<(if 1099511627776<n then 1099511627776 else n)then(if 1099511627776<n then 1099511627776 else n)else -1099511627776
def yqA (ns:List Int)(v:Int):Int:=if v<1\/(ns.length:Int)<v then 0 else zkC (ns[(v-1).toNat]?.getD 0)
theorem zz5 (n:Int): -1099511627776<=zkC n/\zkC n<=1099511627776:=by unfold zkC;split<;>split at* <;>omega
structure NumOk (f:Int->Int):Prop where
 z:f 0=0
 lo:∀v, -1099511627776<=f v
 hi:∀v,f v<=1099511627776
theorem wkE (ns:List Int):NumOk (yqA ns) where
 z:=if_pos (.inl (by decide))
 lo v := by unfold yqA;split;decide;exact(zz5 _).1
 hi v := by unfold yqA;split;decide;exact(zz5 _).2
def qj0 (cs:List Sym)(i:Int):Int:=(cs[i.toNat]?.getD qjC).var
def zxs (ν:Int->Int)(f:Int×Int×Int):Bool:=decide (ν f.1-ν f.2.1<=f.2.2)
def hds (ν:Int->Int)(h:Hp):Bool:=h.facts.all (zxs ν)
def zvO (ν:Int->Int)(cs:List Sym)(v:Int):Int:=if 0<v then ν (qj0 cs (v-1))else 0
def zjy (ν:Int->Int)(cs:List Sym)(f:Int×Int×Int):Bool:=decide (zvO ν cs f.1-zvO ν cs f.2.1<=f.2.2)
def zzJ (ν:Int->Int)(cs:List Sym)(f:Bs×Int):Bool:= !decide (0<=f.2)||(decide (0<=ν (qj0 cs f.2))&&decide (ν (qj0 cs f.2)<=256))
def yxw (ν:Int->Int)(T:List Ty)(c:Chk):Bool:=(c.origin==6&& !c.held)||((qxe T c.typ).facts.all (zjy ν c.cells)&&(qxe T c.typ).fields.all (zzJ ν c.cells)&&(!(c.origin==5)||decide (1<=ν (qj0 c.cells c.at_))))
theorem qvy {ν:Int->Int}{h h':Hp}{fs:List (Int×Int×Int)}(e:h.assume fs=.ok h'):hds ν h'=(hds ν h&&fs.all (zxs ν)):=by
 rw[qqo e,hds,hds,List.all_append]
theorem zxt {ν:Int->Int}(hν:NumOk ν){h:Hp}{p:Sym×Hp}(e:h.fresh=.ok p):hds ν p.2=hds ν h:=by
 rw[qxa e,hds,hds,List.all_append];have h1:=hν.lo h.vars;have h2:=hν.hi h.vars;have h3:=hν.z;have:List.all [(h.vars,(0:Int),(1099511627776:Int)),(0,h.vars,1099511627776)] (zxs ν)=true:=by{simp only[List.all_cons,List.all_nil,Bool.and_true,Bool.and_eq_true,zxs,decide_eq_true_eq,h3];omega};rw[this,Bool.and_true]
theorem qv4 {ν:Int->Int}(hν:NumOk ν){out:Int}:∀{fs:List (Bs×Int)} {i:Nat} {h:Hp} {q:List Sym×Hp},qjj out i fs h=.ok q->hds ν q.2=hds ν h/\∀s∈q.1,s=qjC\/∃v,s=zxH v
 |[],i,h,q,e=>by cases e;exact⟨rfl,fun s hs=>by cases hs⟩
 |f::fs,i,h,q,e=>by
  unfold qjj at e;split at e;{obtain⟨p,h1,h2⟩:=qzA e;obtain⟨r,h3,h4⟩:=qzA h2;cases h4;obtain⟨h5,h6⟩:=qv4 hν h3;refine⟨h5.trans (zxt hν h1),fun s hs=>?_⟩;rcases List.mem_cons.1 hs with rfl|hs;exact .inr ⟨_,by rw[qxa h1]⟩;exact h6 s hs};{obtain⟨r,h3,h4⟩:=qzA e;cases h4;obtain⟨h5,h6⟩:=qv4 hν h3;refine⟨h5,fun s hs=>?_⟩;rcases List.mem_cons.1 hs with rfl|hs;exact .inl rfl;exact h6 s hs}
theorem wxE {ν:Int->Int}(hν:NumOk ν){cs:List Sym}(hc:∀s∈cs,s=qjC\/∃v,s=zxH v){v:Int}(h0:0<=v):ν (wjL cs v).1=zvO ν cs v/\(wjL cs v).2=0:=by
 unfold wjL zvO qj0;by_cases hv:v=0;{subst hv;rw[if_pos rfl,if_neg (by decide)];exact⟨hν.z,rfl⟩};{rw[if_neg hv,if_pos (by omega)];cases e:cs[(v-1).toNat]? with|none=>{exact⟨by rw[hν.z];exact hν.z.symm,rfl⟩}|some s=>{rcases hc s (List.mem_of_getElem? e)with rfl|⟨w,rfl⟩;exact⟨rfl,rfl⟩;exact⟨rfl,rfl⟩}}
theorem wxP {ν:Int->Int}(hν:NumOk ν){cs:List Sym}(hc:∀s∈cs,s=qjC\/∃v,s=zxH v):∀{fs:List (Int×Int×Int)},(∀f∈fs,0<=f.1/\0<=f.2.1)->(jxn fs cs).all (zxs ν)=fs.all (zjy ν cs)
 |[],_=>rfl
 |f::fs,h=>by
  have ih:=wxP hν hc (fs:=fs) fun g hg=>h g (List.mem_cons_of_mem _ hg);obtain⟨h1,h2⟩:=h f (List.mem_cons_self ..);obtain⟨a1,a2⟩:=wxE hν hc h1;obtain⟨b1,b2⟩:=wxE hν hc h2;unfold jxn at ih⊢;rw[List.map_cons,List.all_cons,List.all_cons,ih];congr 1;unfold zxs zjy;rw[a1,b1,a2,b2,show f.2.2-0+0=f.2.2 by omega]
theorem wzq {cs:List Sym}{i:Nat}{s:Sym}(h:(cs[i]?.getD qjC).var=0)(hs:s.var=0)(j:Int):qj0 (cs.set i s) j=qj0 cs j:=by
 unfold qj0;by_cases hj:i=j.toNat;{subst hj;by_cases hl:j.toNat<cs.length;{rw[List.getElem?_set_self hl,h];exact hs};{rw[List.getElem?_eq_none (by simpa using hl),List.getElem?_eq_none (by simpa using hl)]}};{rw[List.getElem?_set_ne hj]}
theorem qwj {ν:Int->Int}{a b:List Sym}(h:∀j,qj0 a j=qj0 b j):zzJ ν a=zzJ ν b:=by funext f;unfold zzJ;rw[h]
theorem zjx {ν:Int->Int}{a b:List Sym}(h:∀j,qj0 a j=qj0 b j):zjy ν a=zjy ν b:=by funext f;unfold zjy zvO;rw[h,h]
theorem qkJ {ν:Int->Int}(hν:NumOk ν){b:Nat}{kind:Int}:∀{fs:List (Bs×Int)} {i:Nat} {h h':Hp} {c:Chk},qxd b kind i fs h=.ok h'->h.chunks[b]?=some c->(∀(j:Nat) (f:Bs×Int),fs[j]?=some f->0<=f.2->(c.cells[i+j]?.getD qjC).var=0)->∃cs,h'.chunks[b]?=some {c with cells:=cs}/\(∀j,qj0 cs j=qj0 c.cells j)/\hds ν h'=(hds ν h&&fs.all (zzJ ν c.cells))
 |[],i,h,h',c,e,hc,_=>by cases e;exact⟨c.cells,hc,fun _=>rfl,by simp⟩
 |f::fs,i,h,h',c,e,hc,hz=>by
  unfold qxd at e;have hz':∀(j:Nat) (g:Bs×Int),fs[j]?=some g->0<=g.2->(c.cells[i+1+j]?.getD qjC).var=0:=fun j g hg h0=>by{have:=hz (j+1) g (by simpa using hg) h0;rw[show i+1+j=i+(j+1) by omega];exact this};split at e;{rename_i hn;obtain⟨cs,h1,h2,h3⟩:=qkJ hν e hc hz';refine⟨cs,h1,h2,?_⟩;have:zzJ ν c.cells f=true:=by{unfold zzJ;rw[decide_eq_false (show¬(0:Int)<=f.2 by omega)];rfl};rw[h3,List.all_cons,this,Bool.true_and]};{rename_i hn;obtain⟨a,h1,h2⟩:=qzA e;have ha:=qqo h1;have hb:=(List.getElem?_eq_some_iff.1 hc).1;have hc1:(h.put ⟨kind, -1, -1,true,false,true,cellAt h b f.2,[]⟩).2.chunks[b]?=some c:=qvs _ _ _ _ hc;have hca:a.chunks[b]?=some {c with cells:=c.cells.set i (h.put ⟨kind, -1, -1,true,false,true,cellAt h b f.2,[]⟩).1}:=by{rw[ha];exact qjK hc1};have hset:=wzq (s:=(h.put ⟨kind, -1, -1,true,false,true,cellAt h b f.2,[]⟩).1) (hz 0 f rfl (by omega)) rfl;rw[Nat.add_zero]at hset;obtain⟨cs,h3,h4,h5⟩:=qkJ hν h2 hca fun j g hg h0=>by{have:=hset ((i+1+j:Nat):Int);unfold qj0 at this;rw[lA]at this;rw[this];exact hz' j g hg h0};refine⟨cs,h3,fun j=>(h4 j).trans (hset j),?_⟩;rw[h5,qwj hset,qvy h1,List.all_cons,Bool.and_assoc];have hch:cellAt h b f.2=c.cells[f.2.toNat]?.getD qjC:=by{unfold cellAt;rw[hc];rfl};have hd:hds ν (setCell (h.put ⟨kind, -1, -1,true,false,true,cellAt h b f.2,[]⟩).2 b i (h.put ⟨kind, -1, -1,true,false,true,cellAt h b f.2,[]⟩).1)=hds ν h:=by{unfold setCell;split<;>rfl};rw[hd];congr 2;unfold zzJ qj0;rw[hch,decide_eq_true (show(0:Int)<=f.2 by omega)];simp only[List.all_cons,List.all_nil,Bool.and_true,zxs,hν.z,Bool.not_true,Bool.false_or];congr 1;exact decide_eq_decide.2 (by omega);exact decide_eq_decide.2 (by omega)}
structure ChkOf (T:List Ty)(p:Par)(c:Chk):Prop where
 origin:c.origin=qqX p.mode (qxe T p.typ).sort
 typ:c.typ=qvN T p
 at_:c.at_=if(qxS T p).sort=2\/(qxS T p).sort=3 then(qxS T p).of else -1
 held:c.held=((qxe T p.typ).sort==4)
 live:c.live=true
 arr:c.array=false
 len:c.cells.length=(qxS T p).fields.length
theorem ChkOf.count {T:List Ty}{G:List Sg}(hT:LibOk T G){p:Par}(hp:0<=p.typ/\p.typ<T.length){c:Chk}(h:ChkOf T p c)(h5:c.origin=5):0<=c.at_/\c.at_<c.cells.length:=by
 have hso:=hT.types _ (qkM hp).1;have h2:(qxe T p.typ).sort=2:=by{have:=h.origin.symm.trans h5;unfold qqX at this;split at this;{split at this<;>(try split at this)<;>(try split at this)<;>omega};{split at this;{split at this<;>omega};{split at this;{assumption};omega}}};have hty:qxS T p=qxe T p.typ:=by{unfold qxS qvN;rw[if_neg (by omega)]};have h3:=hso.of23 (.inl h2);rw[h.at_,h.len,hty,if_pos (.inl h2)];exact h3
theorem zvr {T:List Ty}{G:List Sg}(hT:LibOk T G){ν:Int->Int}(hν:NumOk ν){p:Par}(hp:0<=p.typ/\p.typ<T.length){h:Hp}{r:(Sym×Sym)×Hp}(e:zz9 p T h=.ok r):∃c,r.2.chunks[h.chunks.length]?=some c/\hds ν r.2=(hds ν h&&yxw ν T c)/\ChkOf T p c:=by
 have ht:=qkM hp;have hso:=(hT.types _ ht.1);have hu0:qxS T p∈T:=by{unfold qxS qvN;split;{rename_i h4;obtain⟨h1,h2,_⟩:=hso.of4 h4;exact(qkM ⟨h1,h2⟩).1};exact ht.1};have hfa:=(hT.types _ hu0).facts;rw[Lx.zxA rfl rfl]at e;have hu:(if(qxe T p.typ).sort=4 then qxe T (qxe T p.typ).of else qxe T p.typ)=qxS T p:=by{unfold qxS qvN;split<;>rfl};have hn:(if(qxe T p.typ).sort=4 then(qxe T p.typ).of else p.typ)=qvN T p:=rfl;have hty:qxe T (qvN T p)=qxS T p:=rfl;rw[hu,hn]at e;unfold restR at e;split at e;{rename_i h6;cases e;refine⟨_,zzj _ _,?_,⟨rfl,rfl,rfl,rfl,rfl,rfl,by simp⟩⟩;have:∀x y z w:_,yxw ν T ⟨qqX p.mode (qxe T p.typ).sort,x,y,z,(qxe T p.typ).sort==4,false,qjC,w⟩=true:=fun x y z w=>by{unfold yxw;simp only[h6.1,h6.2];rfl};rw[this,Bool.and_true];rfl};{rename_i h6;obtain⟨c,h1,e⟩:=qzA e;obtain⟨h2,h3,e⟩:=qzA e;obtain⟨h4,h5,e⟩:=qzA e;obtain⟨h6',h7,e⟩:=qzA e;cases e;have hc:h4.chunks=h.chunks:=by{have h8:h2.chunks=h.chunks:=by{rw[qqo h3];exact qqS h1};split at h5;{rw[qqo h5];exact h8};{cases h5;exact h8}};have hl:=congrArg List.length hc;obtain⟨h8,h9⟩:=qkc h1;obtain⟨k1,k2⟩:=qv4 hν h1;have key:=qkJ hν h7 (zzj h4 _) (fun j f hf h0=>by{obtain⟨s,q1,q2⟩:=h9 j f hf;rw[if_neg (by omega)]at q2;show(c.1[0+j]?.getD qjC).var=0;rw[Nat.zero_add,q1,q2];rfl});obtain⟨cs,m1,m2,m3⟩:=key;rw[hl]at m1;refine⟨_,m1,?_,⟨rfl,rfl,rfl,rfl,rfl,rfl,?_⟩⟩;rotate_left;{obtain⟨_,cs',n1,n2⟩:=qkv h7 (zzj h4 _);rw[hl,m1]at n2;rw[show cs=cs' from congrArg Chk.cells (Option.some.inj n2),n1];exact h8};rw[m3];have e4:hds ν (h4.put ⟨qqX p.mode (qxe T p.typ).sort,qvN T p,if(qxS T p).sort=2\/(qxS T p).sort=3 then(qxS T p).of else -1,true,(qxe T p.typ).sort==4,false,qjC,c.1⟩).2=hds ν h4:=rfl;rw[e4];have e5:hds ν h4=(hds ν h2&&(!(qqX p.mode (qxe T p.typ).sort==5)||decide (1<=ν (qj0 c.1 (if(qxS T p).sort=2\/(qxS T p).sort=3 then(qxS T p).of else -1))))):=by{split at h5;{rename_i ho;rw[qvy h5,ho];congr 1;simp only[List.all_cons,List.all_nil,Bool.and_true,zxs,hν.z,beq_self_eq_true,Bool.not_true,Bool.false_or,if_true];exact decide_eq_decide.2 (by unfold qj0;omega)};{rename_i ho;cases h5;rw[beq_false_of_ne ho];simp}};rw[e5,qvy h3,k1,wxP hν k2 (fun f hf=>⟨(hfa f hf).1,(hfa f hf).2.2.1⟩)];have e6:(qqX p.mode (qxe T p.typ).sort==6&& !((qxe T p.typ).sort==4))=false:=by{cases hq:((qxe T p.typ).sort==4)with|true=>{simp}|false=>{have:¬qqX p.mode (qxe T p.typ).sort=6:=fun h=>h6 ⟨h,hq⟩;rw[beq_false_of_ne this];rfl}};unfold yxw;simp only[e6,Bool.false_or,hty,qwj m2,zjx m2,m2];cases hds ν h<;>cases(qxS T p).facts.all (zjy ν c.1)<;>cases(qxS T p).fields.all (zzJ ν c.1)<;>cases(!(qqX p.mode (qxe T p.typ).sort==5)||decide (1<=ν (qj0 c.1 (if(qxS T p).sort=2\/(qxS T p).sort=3 then(qxS T p).of else -1))))<;>rfl}
def yxx (ν:Int->Int)(T:List Ty)(h:Hp)(p:Par)(b:Int):Bool:=p.mode==1||yxw ν T ((h.chunks[b.toNat]?).getD ⟨0,0,0,false,false,false,qjC,[]⟩)
def qw9 (ν:Int->Int)(T:List Ty)(h:Hp):List Par->List Int->Bool
 |p::ps,b::bs=>yxx ν T h p b&&qw9 ν T h ps bs
 |_,_=>true
theorem zzw {ν:Int->Int}{T:List Ty}{h:Hp}{p:Par}{b:Int}:∀{ps:List Par} {bs:List Int},bs.length=ps.length->qw9 ν T h (ps++[p]) (bs++[b])=(qw9 ν T h ps bs&&yxx ν T h p b)
 |[],[],_=>by simp only[List.nil_append,qw9,Bool.and_true,Bool.true_and]
 |[],_::_,h=>by simp at h
 |_::_,[],h=>by simp at h
 |q::ps,c::bs,hl=>by
  have:=zzw (ν:=ν) (T:=T) (h:=h) (p:=p) (b:=b) (ps:=ps) (bs:=bs) (by simpa using hl);simp only[List.cons_append,qw9,this,Bool.and_assoc]
theorem zxy {ν:Int->Int}{T:List Ty}{h h':Hp}(hp:Pre h h'):∀{ps:List Par} {bs:List Int},(∀(i:Nat) (p:Par) (b:Int),ps[i]?=some p->bs[i]?=some b->p.mode≠1->∃c,h.chunks[b.toNat]?=some c/\ChkOf T p c)->qw9 ν T h' ps bs=qw9 ν T h ps bs
 |[],_,_=>rfl
 |_::_,[],_=>rfl
 |q::ps,c::bs,hx=>by
  have ih:=zxy (ν:=ν) (T:=T) hp (ps:=ps) (bs:=bs) fun i p b h1 h2=>hx (i+1) p b (by simpa using h1) (by simpa using h2);simp only[qw9,ih];congr 1;unfold yxx;by_cases hm:q.mode=1;{rw[hm];rfl};{obtain⟨x,h1,_⟩:=hx 0 q c rfl rfl hm;rw[h1,hp _ _ h1]}
theorem qwM {T:List Ty}{G:List Sg}(hT:LibOk T G){ν:Int->Int}(hν:NumOk ν):∀{ps done:List Par} {s s':Sta},(∀p∈ps,zvv T.length p)->s.blocks.length=done.length->(∀(i:Nat) (p:Par) (b:Int),done[i]?=some p->s.blocks[i]?=some b->p.mode≠1->∃c,s.heap.chunks[b.toNat]?=some c/\ChkOf T p c)->hds ν s.heap=qw9 ν T s.heap done s.blocks->qxP T ps s=.ok s'->hds ν s'.heap=qw9 ν T s'.heap (done++ps) s'.blocks/\∀(i:Nat) (p:Par) (b:Int),(done++ps)[i]?=some p->s'.blocks[i]?=some b->p.mode≠1->∃c,s'.heap.chunks[b.toNat]?=some c/\ChkOf T p c
 |[],done,s,s',_,_,hx,hd,e=>by cases e;rw[List.append_nil];exact⟨hd,hx⟩
 |p::ps,done,s,s',hp,hl,hx,hd,e=>by
  unfold qxP at e;obtain⟨s1,h1,e⟩:=qzA e;rw[show done++p::ps=(done++[p])++ps by simp];have hpp:=hp p (List.mem_cons_self ..);have key:∃b,s1.blocks=s.blocks++[b]/\Pre s.heap s1.heap/\(p.mode≠1->∃c,s1.heap.chunks[b.toNat]?=some c/\ChkOf T p c)/\hds ν s1.heap=(hds ν s.heap&&yxx ν T s1.heap p b):=by{unfold zxd at h1;unfold yxx;split at h1;{rename_i hm;obtain⟨q,h2,h3⟩:=qzA h1;cases h3;have h4:=qxa h2;refine⟨-1,rfl,?_,fun h=>absurd hm h,?_⟩;{show Pre s.heap q.2;rw[h4];exact .of_eq rfl};{rw[hm];show hds ν q.2=_;rw[zxt hν h2];simp}};{rename_i hm;obtain⟨q,h2,h3⟩:=qzA h1;cases h3;obtain⟨x,hb⟩:=zz8 hT (hpp.2.2 hm) h2;obtain⟨c,hc,hd2,hco⟩:=zvr hT hν (hpp.2.2 hm) h2;have e1:q.1.1.block.toNat=s.heap.chunks.length:=by{rw[hb.ptr];exact lA _};refine⟨q.1.1.block,rfl,hb.pre,fun _=>⟨c,by rw[e1];exact hc,hco⟩,?_⟩;show hds ν q.2=_;rw[e1,hc,hd2,beq_false_of_ne hm];rfl}};obtain⟨b,hb,hpre,hex,hh⟩:=key;have h0:=zxy (ν:=ν) (T:=T) hpre hx;refine qwM hT hν (fun q hq=>hp q (List.mem_cons_of_mem _ hq)) (by rw[hb];simp[hl]) (fun i q c hq hc hm=>?_) ?_ e;{rw[hb]at hc;by_cases hi:i<done.length;{rw[List.getElem?_append_left hi]at hq;rw[List.getElem?_append_left (by omega)]at hc;obtain⟨x,h1,h2⟩:=hx i q c hq hc hm;exact⟨x,hpre _ _ h1,h2⟩};{have hi2:i=done.length:=by{have:=(List.getElem?_eq_some_iff.1 hq).1;simp at this;omega};subst hi2;rw[List.getElem?_append_right (Nat.le_refl _),Nat.sub_self]at hq;rw[List.getElem?_append_right (by omega),hl,Nat.sub_self]at hc;cases hq;cases hc;exact hex hm}};{rw[hb,zzw hl,h0,<-hd,hh]}
theorem ww9 {T:List Ty}{G:List Sg}(hT:LibOk T G){g:Sg}(hg:∀p∈g.params,zvv T.length p){s:Sta}(e:zkJ g T=.ok s)(ns:List Int):hds (yqA ns) s.heap=qw9 (yqA ns) T s.heap g.params s.blocks/\∀(i:Nat) (p:Par) (b:Int),g.params[i]?=some p->s.blocks[i]?=some b->p.mode≠1->∃c,s.heap.chunks[b.toNat]?=some c/\ChkOf T p c:=
 qwM hT (wkE ns) (done:=[]) hg rfl (by intro i p b h;simp at h) rfl e
end Lg
