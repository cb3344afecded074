import Derived.Test.YtkknljojdgpdaaaGreatDoorB06
set_option maxHeartbeats 32000000
set_option linter.unusedSimpArgs false
set_option linter.unusedVariables false
namespace Lx
open Go
def resK (E:Env):List ResultVar->S->(List LV->Prop)->Prop
 |[],_,K=>K []
 |.tmp t::r,s,K=>sm (s.tm t) fun x=>resK E r s fun xs=>K (x::xs)
 |.cell t ty::r,s,K=>sm (s.tm t) fun p=>sm (E.ti ty) fun i=>ldK s i p fun x=>resK E r s fun xs=>K (x::xs)
def frzR (s:S):List LV->(List D->S->Prop)->Prop
 |[],K=>K [] s
 |x::xs,K=>frz s x fun d s'=>frzR s' xs fun ds s''=>K (d::ds) s''
def outB:List Nat->Bx->Bx
 |[],_=>nix
 |k::ks,bx=>match bx k with
  |some b=>put k b (outB ks bx)
  |none=>outB ks bx
def okD (bx:Bx):List Nat->Prop
 |[]=>True
 |k::ks=>(∀b,bx k=some b->(allD b.cells).isSome=true)/\okD bx ks
mutual
def rnr (r:Nat):LV->LV
 |.d x=>.d x
 |.os j sz n=>if j=r then .os 0 sz n else .un
 |.ag xs=>.ag (rnrs r xs)
 |.tup xs=>.tup (rnrs r xs)
 |_=>.un
def rnrs (r:Nat):List LV->List LV
 |[]=>[]
 |x::xs=>rnr r x::rnrs r xs
end
def one1 (ds:List D):LV:=match ds with
 |[d]=>.d d
 |ds=>.tup (ds.map .d)
def outK (pk:List Nat)(ow:Option Nat)(xs:List LV)(s:S)(Kr:LV->Bx->Ar1->Prop):Prop:=
 match ow with
 |none=>frzR s xs fun ds s'=>okD s'.bx pk/\∃es,D.les ds es/\Kr (one1 es) (outB pk s'.bx) none
 |some r=>okD s.bx pk/\match xs with
  |[x]=>Kr (rnr r x) (outB pk s.bx) (s.ar r)
  |_=>False
def endK (E:Env)(rs:List ResultVar)(pk:List Nat)(ow:Option Nat)(Kr:LV->Bx->Ar1->Prop):Ex->S->Prop
 |.exit _,_=>False
 |.normal,s=>resK E rs s fun xs=>outK pk ow xs s Kr
 |.ret,s=>resK E rs s fun xs=>outK pk ow xs s Kr
structure Start (aZ:List LV)(bx₀:Bx)(ntmps:Nat)(ks:List Nat)(s:S):Prop where
 n:s.n=aZ.length+(ntmps-aZ.length)
 tm:∀k x,s.tm k=some x->aZ[k]?=some x
 bx:∀k b,s.bx k=some b->bx₀ k=some b
 ar:∀k,s.ar k=none
 pk:∀k∈ks,1000<=k/\∃b,bx₀ k=some b
theorem qvf {z:Bg}{ds:List Deferred}{a:Act}{w:World}:∀{xs:List LV} {g:Gh} {s:S} {vs:List Value} {K:List D->S->Prop},R z g ds s a w->LRps g xs vs->frzR s xs K->
  ∃g' es s',K es s'/\R z g' ds s' a w/\Gh.le g g'/\Rps g'.Φ es vs/\Sam s s'
 |[],g,s,vs,K,hR,hx,h=>by cases hx;exact⟨g,[],s,h,hR,Gh.le_refl g,.nil,Sam.refl s⟩
 |x::xs,g,s,vs,K,hR,hx,h=>by
  cases hx with|cons hx ht=>{obtain⟨g1,d,s1,h1,hR1,hl1,hp1,hs1⟩:=zqn hR hx h;obtain⟨g2,es,s2,h2,hR2,hl2,hp2,hs2⟩:=qvf hR1 (ht.mono hl1) h1;exact⟨g2,_,s2,h2,hR2,hl1.trans hl2,.cons (hp1.mono hl2.Φ) hp2,hs1.trans hs2⟩}
theorem qkj {P:Program}{E:Env}(ht:TOK P E.tl){z:Bg}{g:Gh}{ds:List Deferred}{s:S}{a:Act}{w:World}(hR:R z g ds s a w):∀{rs:List ResultVar} {K:List LV->Prop},resK E rs s K->
  ∃xs vs,K xs/\LRps g xs vs/\(rs.mapM fun r=>(match r with
   |.tmp t=>pure (a.tmps.getD t undef)
   |.cell p t=>(do loadVar t (<-asAddr (a.tmps.getD p undef))):Sem Value)).run P w=.ok vs w
 |[],K,h=>⟨[],[],h,.nil,rfl⟩
 |.tmp t::r,K,h=>by
   obtain⟨x,hx,h⟩:=h;obtain⟨xs,vs,hK,hr,hrun⟩:=qkj ht hR h;exact⟨_,_,hK,.cons (hR.tm t x hx).2 hr,by simp only[List.mapM_cons,Sem.run_bind,Sem.run_pure,Result.andThen_ok,hrun]⟩
 |.cell t ty::r,K,h=>by
   obtain⟨p,hp,i,hi,h⟩:=h;have hpv:=(hR.tm t p hp).2;obtain⟨y,u,h,hy,hu⟩:=zjl ht hi hR.wd hpv h;obtain⟨xs,vs,hK,hr,hrun⟩:=qkj ht hR h;have hld:(do loadVar ty (<-asAddr (a.tmps.getD t undef)):Sem Value).run P w=.ok u w:=by{generalize a.tmps.getD t undef=q at hu hpv;have:∃ad,q=.pointer (some ad):=by{cases q with|pointer ad=>{cases ad with|some ad=>{exact⟨ad,rfl⟩}|none=>{simp[Instr.loadAt,Instr.sureAddr]at hu}}|_=>{simp[Instr.loadAt,Instr.sureAddr]at hu}};obtain⟨ad,rfl⟩:=this;simpa[Instr.loadAt,Instr.sureAddr,asAddr]using hu};exact⟨_,_,hK,.cons hy hr,by simp only[List.mapM_cons,Sem.run_bind,hld,Result.andThen_ok,hrun,Sem.run_pure]⟩
def yq6 (vs:List Value):Value:=match vs with
 |[v]=>v
 |vs=>.tuple vs.toArray
theorem wkC (vs:List Value):(if h:vs.toArray.size=1 then vs.toArray[0]else .tuple vs.toArray)=yq6 vs:=by
 match vs with|[]=>{rfl}|[v]=>{rfl}|_::_::_=>{rfl}
theorem qjr {P:Program}{fn:Func}{tmps:Array Value}{w:World}{vs:List Value}(h:(fn.results.toList.mapM fun r=>(match r with
   |.tmp t=>pure (tmps.getD t undef)
   |.cell p t=>(do loadVar t (<-asAddr (tmps.getD p undef))):Sem Value)).run P w=.ok vs w):
  (results fn tmps).run P w=.ok (yq6 vs) w:=by
 unfold results;simp only[Sem.run_bind,Array.mapM_eq_mapM_toList,Sem.run_map];refine Eq.trans (congrArg (fun r:Result (List Value)=>(r.andThen fun a w'=>Result.ok a.toArray w').andThen fun a w'=>Sem.run P (pure (if h:a.size=1 then a[0]else Value.tuple a)) w') h) ?_;simp only[Result.andThen_ok,Sem.run_pure];rw[wkC]
theorem qws {bx:Bx}:∀{ks:List Nat},okD bx ks->∀k∈ks,∀b,bx k=some b->∃ds:List D,b.cells=ds.map LV.d
 |j::l,h,k,hk,b,hb=>by
  cases hk with|head=>{obtain⟨ds,hds⟩:=Option.isSome_iff_exists.1 (h.1 b hb);exact⟨ds,qv8 hds⟩}|tail _ hk=>{exact qws h.2 k hk b hb}
theorem qqP:∀{pk:List Nat} {bx:Bx} {j:Nat} {b:Box},outB pk bx j=some b->j∈pk/\bx j=some b
 |[],_,_,_,h=>by cases h
 |k::ks,bx,j,b,h=>by
  unfold outB at h;cases hb:bx k with|some b'=>{rw[hb]at h;by_cases e:j=k;{subst e;simp only[qz7,Option.some.injEq]at h;subst h;exact⟨by simp,hb⟩};{simp only[qzV _ _ e]at h;obtain⟨h1,h2⟩:=qqP h;exact⟨by simp[h1],h2⟩}}|none=>{rw[hb]at h;obtain⟨h1,h2⟩:=qqP h;exact⟨by simp[h1],h2⟩}
mutual
theorem LRp.rnr {g:Gh}{r:Nat}{x:LV}{v:Value}(h:LRp g x v):LRp {g with α:=fun _=>g.α r,len:=fun j=>if j=0 then g.len r else none} (Lx.rnr r x) v:=by
 cases h with|d h=>{simp only[Lx.rnr];exact .d h}|bp k off=>{simp only[Lx.rnr];exact .un _}| @os j sz n v h1 h=>{simp only[Lx.rnr];split;{rename_i e;subst e;exact .os h1 fun m hm=>h m (by simpa using hm)};exact .un _}|ap h1 h=>{simp only[Lx.rnr];exact .un _}|ep b o off h hc=>{simp only[Lx.rnr];exact .un _}|ag h=>{simp only[Lx.rnr];exact .ag h.rnrs}|fn f h h'=>{simp only[Lx.rnr];exact .un _}|tup h=>{simp only[Lx.rnr];exact .tup h.rnrs}|mp k=>{simp only[Lx.rnr];exact .un _}|un=>{simp only[Lx.rnr];exact .un _}
theorem LRps.rnrs {g:Gh}{r:Nat}{xs:List LV}{vs:List Value}(h:LRps g xs vs):LRps {g with α:=fun _=>g.α r,len:=fun j=>if j=0 then g.len r else none} (Lx.rnrs r xs) vs:=by
 cases h with|nil=>{simp only[Lx.rnrs];exact .nil}|cons h t=>{simp only[Lx.rnrs];exact .cons h.rnr t.rnrs}
end
theorem Aft.mk' {g₀:Gh}{bx:Bx}{w w':World}{g:Gh}{bx':Bx}{ar:Ar}{pk:List Nat}(h:Rw ⟨qq0 g₀ bx,g₀,w⟩ g bx' ar w')(hpk:∀k∈pk,1000<=k/\∃b,bx k=some b)(hok:okD bx' pk)(ow:Option Nat):
  Aft g₀ bx w {g with α:=fun _=>g.α (ow.getD 0),len:=fun j=>if j=0 then(ow.bind ar).map (·.2.2.length)else none} (outB pk bx') (ow.bind ar) w' where
 Φ:=h.mine.le
 fr:=h.fr
 fix:=h.mine.fix
 wd:=by
  have har:∀r a,ar0 (ow.bind ar) r=some a->r=0/\∃o,ow=some o/\ar o=some a:=by{intro r a hr;unfold ar0 at hr;split at hr;{obtain⟨o,h1,h2⟩:=Option.bind_eq_some_iff.1 hr;exact⟨by assumption,o,h1,h2⟩};{cases hr}};have hl:Gh.le g {g with len:=fun _=>none}:=⟨rfl,Phi.le_refl _,fun r m' hm=>by cases hm⟩;refine⟨?_,?_,?_,h.wd.fx,?_,?_,?_,?_,?_⟩;{intro k b hk;obtain⟨h1,h2⟩:=qqP hk;obtain⟨vs,h3,h4⟩:=h.wd.box k b h2;obtain⟨ds,hds⟩:=qws hok k h1 b h2;rw[hds]at h3⊢;exact⟨vs,LRps.ofD h3.toD,h4⟩};{intro r sz ty xs hr;obtain⟨rfl,o,rfl,hr⟩:=har r _ hr;exact h.wd.arr o sz ty xs hr};{intro r;show(if r=0 then(ow.bind ar).map (fun x=>x.2.2.length)else none)=(if r=0 then ow.bind ar else none).map (fun x=>x.2.2.length);split<;>rfl};{intro k k' b b' hk hk';exact h.wd.inj k k' b b' (qqP hk).2 (qqP hk').2};{intro r r' a a' hr hr' _;rw[(har r a hr).1,(har r' a' hr').1]};{intro k r b a hk hr;obtain⟨rfl,o,rfl,hr⟩:=har r _ hr;exact h.wd.injb k o b a (qqP hk).2 hr};{intro k b o hk;exact h.wd.outb k b o (qqP hk).2};{intro r a o' hr ho;obtain⟨rfl,o,rfl,hr⟩:=har r _ hr;exact h.wd.outa o a o' hr ho}
 keys k b hk:=by
  obtain⟨h1,h2⟩:=qqP hk;exact⟨(hpk k h1).2,h.keys k (hpk k h1).1,qws hok k h1 b h2⟩
 arr a ha:=by
  obtain⟨o,rfl,h2⟩:=Option.bind_eq_some_iff.1 ha;exact h.mine.arr o a h2
theorem jjU {P:Program}{E:Env}{sp:FuncId->Option SpecX}(hmix:P.follows .mixedOrders=true)(ht:TOK P E.tl)(hzt:ZOK E.tl)(hsp:∀f Sp,sp f=some Sp->OKX P f Sp){f:FuncId}{fn:Func}{c:Code}(hf:P.funcs[f]?=some fn)(hb:fn.body=some c)
  (hent:∀(args:Array Value) (w:World),(callFunc f args).run P w=.ok (.enter f args) w){pk:List Nat}{ow:Option Nat}{Sp:qzP}
  (h:∀aZ bx Kr Kp,Sp aZ bx Kr Kp->∃s₀,Start aZ bx fn.ntmps pk s₀/\cK E sp c s₀ (endK E fn.results.toList pk ow Kr) (fun d s'=>okD s'.bx pk/\Kp d (outB pk s'.bx)))(hE:E.hp=false:=by rfl):OK P f Sp where
 enters:=hent
 calls aZ bx Kr Kp hS g vs w has hwd:=by
  haveI:Stb E ⟨qq0 g bx,g,w⟩:=⟨fun e=>by rw[hE]at e;cases e⟩;obtain⟨s₀,hst,hc⟩:=h aZ bx Kr Kp hS;refine calls_of_wp hf hb ?_;have hlen:=has.length;have hR:R ⟨qq0 g bx,g,w⟩ g [] s₀ {tmps:=vs.toArray++Array.replicate (fn.ntmps-vs.toArray.size) undef,defers:=[]} w:=by{refine⟨?_,rfl,?_,⟨⟨?_,?_,?_,hwd.fx,?_,?_,?_,?_,?_⟩,Fr.refl _ _,⟨?_,?_,Phi.le_refl _,fun b o v h=>.inl h⟩,fun k _=>rfl⟩⟩;{simp[hst.n,hlen]};{intro k x hk;have hx:=hst.tm k x hk;obtain⟨v,hv,hr⟩:=has.get hx;have hlt:=getElem?_lt_of hx;have hltv:=getElem?_lt_of hv;refine⟨by rw[hst.n];omega,?_⟩;have:(vs.toArray++Array.replicate (fn.ntmps-vs.toArray.size) undef).getD k undef=v:=by{rw[Array.getD_eq_getD_getElem?,Array.getElem?_append_left (by simpa using hltv)];simp[hv]};rw[this];exact hr};{intro k b hk;exact hwd.box k b (hst.bx k b hk)};{intro r sz ty xs hr;rw[hst.ar]at hr;cases hr};{intro r;rw[hst.ar];exact hwd.len r};exact fun k k' b b' hk hk'=>hwd.inj k k' b b' (hst.bx k b hk) (hst.bx k' b' hk');{intro r r' a a' hr;rw[hst.ar]at hr;cases hr};{intro k r b a hk hr;rw[hst.ar]at hr;cases hr};exact fun k b o hk=>hwd.outb k b o (hst.bx k b hk);{intro r a o hr ho;rw[hst.ar]at hr;cases hr};exact fun k b hk=>.inl ⟨k,b,hst.bx k b hk,rfl⟩;{intro r a hr;rw[hst.ar]at hr;cases hr}};refine wp_mono (qxK hmix ht hzt hsp c _ g s₀ _ w hR hc) fun e a' w'=>?_;have fin:∀g' s',(resK E fn.results.toList s' fun xs=>outK pk ow xs s' Kr)->R ⟨qq0 g bx,g,w⟩ g' [] s' a' w'-> a'.defers=[]/\∃v,(results fn a'.tmps).run P w'=.ok v w'/\∃g'',(∃x v' bx' a1,Ending.returned v=.returned v'/\Kr x bx' a1/\LRp g'' x v'/\Aft g bx w g'' bx' a1 w')\/ (∃d v' bx',Ending.returned v=.panicked [{v:=v',recovered:=false}]/\Kp d bx'/\Rp g''.Φ d v'/\Aft g bx w g'' bx' none w'):=by{intro g' s' hq hR';obtain⟨xs,us,hK,hr,hrun⟩:=qkj ht hR' hq;refine⟨hR'.defers,_,qjr hrun,?_⟩;unfold outK at hK;split at hK;{obtain⟨g2,es',s2,⟨hok,es,hle,hK⟩,hR2,hl,hp',hs⟩:=qvf hR' hr hK;have hp:=hp'.les hle;refine⟨_,.inl ⟨_,_,_,_,rfl,hK,?_,Aft.mk' hR2.rw hst.pk hok none⟩⟩;have hps:LRps {g2 with α:=fun _=>g2.α ((none:Option Nat).getD 0),len:=fun j=>if j=0 then((none:Option Nat).bind s2.ar).map (·.2.2.length)else none} (es.map .d) us:=LRps.ofD hp;cases hp with|nil=>{exact .tup .nil}|cons h1 t1=>{cases t1 with|nil=>{exact .d h1}|cons h2 t2=>{exact .tup hps}}};{rename_i q;obtain⟨hok,hK⟩:=hK;split at hK;{rename_i x;cases hr with|cons hx ht'=>{cases ht';have hA:=Aft.mk' hR'.rw hst.pk hok (some q);refine⟨_,.inl ⟨_,_,_,_,rfl,hK,?_,hA⟩⟩;have:=hx.rnr (r:=q);have hl:=hR'.wd.len q;rw[hl]at this;exact this}};exact hK.elim}};intro hq0;cases e with|normal=>{obtain⟨g',s',hq,hR'⟩:=hq0;exact fin g' s' hq hR'}|ret=>{obtain⟨g',s',hq,hR'⟩:=hq0;exact fin g' s' hq hR'}|exit i=>{obtain⟨g',s',hq,hR'⟩:=hq0;exact hq.elim}|panic ch=>{obtain⟨g',d,v,s',a'',rfl,⟨hok,hK⟩,hp,hR',hdf,_⟩:=hq0;exact⟨hdf,{g' with α:=fun _=>g'.α ((none:Option Nat).getD 0),len:=fun j=>if j=0 then((none:Option Nat).bind s'.ar).map (·.2.2.length)else none},.inr ⟨d,v,_,rfl,hK,hp,Aft.mk' hR'.rw hst.pk hok none⟩⟩}|_=>{exact hq0.elim}
def jvo (P:Program):List (Nat×TI)->Prop
 |[]=>True
 |(t,i)::l=>jvp P t i/\jvo P l
theorem jvo.ok {P:Program}:∀{l:List (Nat×TI)},jvo P l->TOK P l
 |(t',i')::l,h,t,i,hm=>by
   cases hm with|head=>{exact h.1}|tail _ hm=>{exact jvo.ok h.2 t i hm}
def jvk:List (Nat×TI)->Prop
 |[]=>True
 |(_,i)::l=>qwu i.zero=true/\jvk l
theorem jvk.ok:∀{l:List (Nat×TI)},jvk l->ZOK l
 |(t',i')::l,h,t,i,hm=>by
   cases hm with|head=>{exact h.1}|tail _ hm=>{exact jvk.ok h.2 t i hm}
def lay:Nat->List LV->Nat->Option LV
 |_,[]=>nix
 |i,x::xs=>put i x (lay (i+1) xs)
def zwm:List (Nat×Box)->Bx
 |[]=>nix
 |(k,b)::l=>put k b (zwm l)
def ww0 (bx:Bx):List (Nat×Box)->Prop
 |[]=>True
 |(k,b)::l=>1000<=k/\bx k=some b/\ww0 bx l
theorem qva:∀{ys:List LV} {i k:Nat} {x:LV},lay i ys k=some x->i<=k/\ys[k-i]?=some x
 |[],_,_,_,h=>by cases h
 |y::ys,i,k,x,h=>by
  unfold lay put at h;split at h;{rename_i e;subst e;simp only[Option.some.injEq]at h;subst h;simp};{rename_i e;obtain⟨h1,h2⟩:=qva h;refine⟨by omega,?_⟩;have:k-i=(k-(i+1))+1:=by{omega};rw[this,List.getElem?_cons_succ];exact h2}
theorem qqO {bx:Bx}:∀{B:List (Nat×Box)},ww0 bx B->∀{k:Nat} {b:Box},zwm B k=some b->bx k=some b
 |[],_,_,_,h=>by cases h
 |(j,c)::l,hB,k,b,h=>by
   unfold zwm put at h;split at h;{rename_i e;subst e;simp only[Option.some.injEq]at h;subst h;exact hB.2.1};exact qqO hB.2.2 h
theorem qvY {bx:Bx}:∀{B:List (Nat×Box)},ww0 bx B->∀k∈B.map (·.1),1000<=k/\∃b,bx k=some b
 |(j,c)::l,hB,k,h=>by
   simp only[List.map_cons,List.mem_cons]at h;rcases h with rfl|h;exact⟨hB.1,c,hB.2.1⟩;exact qvY hB.2.2 k h
theorem fn_OK' {P:Program}{E:Env}{sp:FuncId->Option SpecX}(hmix:P.follows .mixedOrders=true)(ht:TOK P E.tl)(hzt:ZOK E.tl)(hsp:∀f Sp,sp f=some Sp->OKX P f Sp){f:FuncId}{fn:Func}{c:Code}{m:Nat}{rs:Array ResultVar}(hf:P.funcs[f]?=some fn)(hb:fn.body=some c)
  (hm:fn.ntmps=m)(hr:fn.results=rs)
  (hent:∀(args:Array Value) (w:World),(callFunc f args).run P w=.ok (.enter f args) w)(pk:List Nat)(ow:Option Nat){Sp:qzP}
  (h:∀ys bx Kr Kp,Sp ys bx Kr Kp->∃B,B.map (·.1)=pk/\ww0 bx B/\ys.length<=m/\cK E sp c ⟨m,lay 0 ys,zwm B,nix⟩ (endK E rs.toList pk ow Kr) (fun d s'=>okD s'.bx pk/\Kp d (outB pk s'.bx)))(hE:E.hp=false:=by rfl):OK P f Sp:=by
 refine jjU hmix ht hzt hsp hf hb hent (pk:=pk) (ow:=ow) ?_ hE;intro ys bx Kr Kp hS;obtain⟨B,hB,hh,hl,hc⟩:=h ys bx Kr Kp hS;refine⟨_,⟨?_,?_,?_,?_,?_⟩,hr▸hc⟩;{rw[hm];show m=_;omega};{intro k x hk;have:=qva hk;simpa using this.2};{intro k b hk;exact qqO hh hk};{intro k;rfl};{subst hB;exact qvY hh}
theorem zzX:∀{l:List Nat},l.Nodup->nodup l=true
 |[],_=>rfl
 |k::l,h=>by
  obtain⟨h1,h2⟩:=List.nodup_cons.1 h;simp[nodup,zzX h2,h1]
def unC:List LV->List LV
 |[]=>[]
 |x::l=>(match x with
  |.d x=>.d x
  |_=>.un)::unC l
def outU:List Nat->Bx->Bx
 |[],_=>nix
 |k::ks,bx=>match bx k with
  |some b=>put k ⟨unC b.cells,b.ty⟩ (outU ks bx)
  |none=>outU ks bx
def outK3 (pk:List Nat)(xs:List LV)(s:S)(Kr:LV->Bx->Ar->Prop):Prop:=
 frzR s xs fun ds s'=>nodup ((M3 s'.bx 0 pk).map (·.2))=true/\nodup ((M3 s'.bx 0 pk).map (·.1))=true/\∃es,D.les ds es/\Kr (one1 es) (fp3 s'.bx 0 pk) (pa3 s'.ar (M3 s'.bx 0 pk))
def endK3 (E:Env)(rs:List ResultVar)(pk:List Nat)(Kr:LV->Bx->Ar->Prop):Ex->S->Prop
 |.exit _,_=>False
 |.normal,s=>resK E rs s fun xs=>outK3 pk xs s Kr
 |.ret,s=>resK E rs s fun xs=>outK3 pk xs s Kr
def puta:List (Nat×(Nat×TypeId×List D))->Ar
 |[]=>nix
 |(k,b)::l=>put k b (puta l)
def wvo (ar:Ar):List (Nat×(Nat×TypeId×List D))->Prop
 |[]=>True
 |(k,b)::l=>ar k=some b/\wvo ar l
theorem qxk {ar:Ar}:∀{B:List (Nat×(Nat×TypeId×List D))},wvo ar B->∀{k:Nat} {b:Nat×TypeId×List D},puta B k=some b->ar k=some b
 |[],_,_,_,h=>by cases h
 |(j,c)::l,hB,k,b,h=>by
   unfold puta put at h;split at h;{rename_i e;subst e;simp only[Option.some.injEq]at h;subst h;exact hB.1};exact qxk hB.2 h
def ywa (pk:List Nat):Prop:=∀(i k:Nat),pk[i]?=some k->k=1000+i
theorem qks:ywa [1000]:=by
 intro i k h;match i with|0=>{simp at h;omega}|i+1=>{simp at h}
theorem ywa.nodup {pk:List Nat}(h:ywa pk):Lx.nodup pk=true:=by
 refine zzX (List.pairwise_iff_getElem.2 fun i j hi hj hij e=>?_);have h1:=h i _ (lD hi);have h2:=h j _ (lD hj);omega
theorem wx5 {g g':Gh}(hΦ:g'.Φ=g.Φ):∀{cells:List LV} {vs:List Value},LRps g cells vs->LRps g' (unC cells) vs
 |[],vs,h=>by cases h;exact .nil
 |x::l,vs,h=>by
  cases h with|cons hx ht=>{refine .cons ?_ (wx5 hΦ ht);cases hx with|d h=>{exact .d (hΦ▸h)}|os=>{exact .un _}|bp=>{exact .un _}|ap=>{exact .un _}|ep=>{exact .un _}|ag=>{exact .un _}|fn=>{exact .un _}|tup=>{exact .un _}|mp=>{exact .un _}|un=>{exact .un _}}
theorem qxl:∀{pk:List Nat} {bx:Bx} {j:Nat} {b:Box},outU pk bx j=some b->j∈pk/\∃b0,bx j=some b0/\b=⟨unC b0.cells,b0.ty⟩
 |[],_,_,_,h=>by cases h
 |k::ks,bx,j,b,h=>by
  unfold outU at h;cases hb:bx k with|some b'=>{rw[hb]at h;by_cases e:j=k;{subst e;simp only[qz7,Option.some.injEq]at h;exact⟨by simp,b',hb,h.symm⟩};{simp only[qzV _ _ e]at h;obtain⟨h1,h2⟩:=qxl h;exact⟨by simp[h1],h2⟩}}|none=>{rw[hb]at h;obtain⟨h1,h2⟩:=qxl h;exact⟨by simp[h1],h2⟩}
theorem Aft3.mk' {g₀:Gh}{bx:Bx}{ar:Ar}{w w':World}{g:Gh}{bx':Bx}{ar':Ar}{pk:List Nat}(h:Rw ⟨zxZ g₀ bx ar,g₀,w⟩ g bx' ar' w')(hc:ywa pk)(hpk:∀k∈pk,∃b,bx k=some b)
  (hm:Lx.nodup ((M3 bx' 0 pk).map (·.2))=true)(hm1:Lx.nodup ((M3 bx' 0 pk).map (·.1))=true):
  Aft3 g₀ bx ar w (g.bare3 pk (M3 bx' 0 pk)) (fp3 bx' 0 pk) (pa3 ar' (M3 bx' 0 pk)) w' where
 Φ:=h.mine.le
 fr:=h.fr
 fix:=h.mine.fix
 wd:=h.wd.fpx hc.nodup hm hm1
 keys j b hj:=by
  obtain⟨h1,k,b0,h2,h3,_⟩:=qvg hj;have h2':pk[j-1000]?=some k:=by{simpa using h2};have e:=hc _ _ h2';have e':k=j:=by{omega};subst e';refine⟨by omega,hpk k (List.mem_of_getElem? h2'),?_⟩;rw[<-h.keys k (by omega)];simp[Gh.bare3,h2']
 arr r a hr:=by
  rw[qvu]at hr;obtain⟨i,h1,h2⟩:=Option.bind_eq_some_iff.1 hr;have:=h.mine.arr i a h2;simpa[Gh.bare3,h1]using this
theorem Aft3.mkU {g₀:Gh}{bx:Bx}{ar:Ar}{w w':World}{g:Gh}{bx':Bx}{ar':Ar}{pk:List Nat}(h:Rw ⟨zxZ g₀ bx ar,g₀,w⟩ g bx' ar' w')(hpk:∀k∈pk,1000<=k/\∃b,bx k=some b):
  Aft3 g₀ bx ar w {g with len:=fun _=>none} (outU pk bx') nix w' where
 Φ:=h.mine.le
 fr:=h.fr
 fix:=h.mine.fix
 wd:=by
  refine⟨?_,fun r sz ty xs hr=>(by cases hr),fun r=>rfl,h.wd.fx,?_,fun r r' a a' hr=>(by cases hr),fun k r b a hk hr=>(by cases hr),?_,fun r a o hr=>(by cases hr)⟩;{intro k b hk;obtain⟨h1,b0,h2,rfl⟩:=qxl hk;obtain⟨vs,h3,h4⟩:=h.wd.box k b0 h2;exact⟨vs,wx5 (g:=g) (g':={g with len:=fun _=>none}) rfl h3,h4⟩};{intro k k' b b' hk hk' he;obtain⟨_,b0,h2,_⟩:=qxl hk;obtain⟨_,b0',h2',_⟩:=qxl hk';exact h.wd.inj k k' _ _ h2 h2' he};{intro k b o hk;obtain⟨_,b0,h2,_⟩:=qxl hk;exact h.wd.outb k _ o h2}
 keys j b hj:=by
  obtain⟨h1,b0,h2,_⟩:=qxl hj;exact⟨(hpk j h1).1,(hpk j h1).2,h.keys j (hpk j h1).1⟩
 arr r a hr:=by cases hr
theorem zzv {P:Program}{E:Env}{sp:FuncId->Option SpecX}(hmix:P.follows .mixedOrders=true)(ht:TOK P E.tl)(hzt:ZOK E.tl)(hsp:∀f Sp,sp f=some Sp->OKX P f Sp){f:FuncId}{fn:Func}{c:Code}{m:Nat}{rs:Array ResultVar}(hf:P.funcs[f]?=some fn)(hb:fn.body=some c)
  (hm:fn.ntmps=m)(hr:fn.results=rs)
  (hent:∀(args:Array Value) (w:World),(callFunc f args).run P w=.ok (.enter f args) w)(pk:List Nat)(hc:ywa pk){Sp:qvA}
  (h:∀ys bx ar Kr Kp,Sp ys bx ar Kr Kp->∃B A,B.map (·.1)=pk/\ww0 bx B/\wvo ar A/\ys.length<=m/\cK E sp c ⟨m,lay 0 ys,zwm B,puta A⟩ (endK3 E rs.toList pk Kr) (fun d s'=>Kp d (outU pk s'.bx)))(hE:E.hp=false:=by rfl):OK3 P f Sp where
 enters:=hent
 calls aZ bx ar Kr Kp hS g vs w has hwd:=by
  haveI:Stb E ⟨zxZ g bx ar,g,w⟩:=⟨fun e=>by rw[hE]at e;cases e⟩;obtain⟨B,A,hB,hhB,hhA,hl,hcK⟩:=h aZ bx ar Kr Kp hS;refine calls_of_wp hf hb ?_;have hlen:=has.length;have hpk:∀k∈pk,1000<=k/\∃b,bx k=some b:=by{subst hB;exact qvY hhB};have hpk2:∀k∈pk,∃b,bx k=some b:=fun k hk=>(hpk k hk).2;have hgl:Gh.le g {g with len:=fun r=>(puta A r).map (·.2.2.length)}:=by{refine⟨rfl,Phi.le_refl _,fun r m' hm'=>?_⟩;obtain⟨a,ha,rfl⟩:=Option.map_eq_some_iff.1 hm';refine⟨a.2.2.length,?_,Nat.le_refl _,fun _=>rfl⟩;rw[hwd.len r,qxk hhA ha];rfl};have hR:R ⟨zxZ g bx ar,g,w⟩ {g with len:=fun r=>(puta A r).map (·.2.2.length)} [] ⟨m,lay 0 aZ,zwm B,puta A⟩ {tmps:=vs.toArray++Array.replicate (fn.ntmps-vs.toArray.size) undef,defers:=[]} w:=by{refine⟨?_,rfl,?_,⟨⟨?_,?_,fun r=>rfl,hwd.fx,?_,?_,?_,?_,?_⟩,Fr.refl _ _,⟨?_,?_,Phi.le_refl _,fun b o v h=>.inl h⟩,fun k _=>rfl⟩⟩;{simp[hm];omega};{intro k x hk;have hx:aZ[k]?=some x:=by{have:=qva hk;simpa using this.2};obtain⟨v,hv,hr⟩:=has.get hx;have hlt:=getElem?_lt_of hx;have hltv:=getElem?_lt_of hv;refine⟨by show k<m;omega,?_⟩;have:(vs.toArray++Array.replicate (fn.ntmps-vs.toArray.size) undef).getD k undef=v:=by{rw[Array.getD_eq_getD_getElem?,Array.getElem?_append_left (by simpa using hltv)];simp[hv]};rw[this];exact hr.mono hgl};{intro k b hk;obtain⟨us,h1,h2⟩:=hwd.box k b (qqO hhB hk);exact⟨us,h1.mono hgl,h2⟩};{intro r sz ty xs hr;exact hwd.arr r sz ty xs (qxk hhA hr)};exact fun k k' b b' hk hk'=>hwd.inj k k' b b' (qqO hhB hk) (qqO hhB hk');exact fun r r' a a' hr hr'=>hwd.inja r r' a a' (qxk hhA hr) (qxk hhA hr');exact fun k r b a hk hr=>hwd.injb k r b a (qqO hhB hk) (qxk hhA hr);exact fun k b o hk=>hwd.outb k b o (qqO hhB hk);exact fun r a o hr ho=>hwd.outa r a o (qxk hhA hr) ho;exact fun k b hk=>.inl (.inl ⟨k,b,qqO hhB hk,rfl⟩);exact fun r a hr=>.inl (.inr ⟨r,a,qxk hhA hr,rfl⟩)};refine wp_mono (qxK hmix ht hzt hsp c _ _ _ _ w hR hcK) fun e a' w'=>?_;have fin:∀g' s',(resK E rs.toList s' fun xs=>outK3 pk xs s' Kr)->R ⟨zxZ g bx ar,g,w⟩ g' [] s' a' w'-> a'.defers=[]/\∃v,(results fn a'.tmps).run P w'=.ok v w'/\∃g'',(∃x v' bx' ar',Ending.returned v=.returned v'/\Kr x bx' ar'/\LRp g'' x v'/\Aft3 g bx ar w g'' bx' ar' w')\/ (∃d v' bx',Ending.returned v=.panicked [{v:=v',recovered:=false}]/\Kp d bx'/\Rp g''.Φ d v'/\Aft3 g bx ar w g'' bx' nix w'):=by{intro g' s' hq hR';obtain⟨xs,us,hK,hr',hrun⟩:=qkj ht hR' hq;refine⟨hR'.defers,_,qjr (hr▸hrun),?_⟩;obtain⟨g2,es',s2,⟨hn1,hn2,es,hle,hK⟩,hR2,hl,hp',hs⟩:=qvf hR' hr' hK;have hp:=hp'.les hle;refine⟨_,.inl ⟨_,_,_,_,rfl,hK,?_,Aft3.mk' hR2.rw hc hpk2 hn1 hn2⟩⟩;cases hp with|nil=>{exact .tup .nil}|cons h1 t1=>{cases t1 with|nil=>{exact .d h1}|cons h2 t2=>{exact .tup (.cons (.d h1) (.cons (.d h2) (LRps.ofD t2)))}}};intro hq0;cases e with|normal=>{obtain⟨g',s',hq,hR'⟩:=hq0;exact fin g' s' hq hR'}|ret=>{obtain⟨g',s',hq,hR'⟩:=hq0;exact fin g' s' hq hR'}|exit i=>{obtain⟨g',s',hq,hR'⟩:=hq0;exact hq.elim}|panic ch=>{obtain⟨g',d,v,s',a'',rfl,hK,hp,hR',hdf,_⟩:=hq0;exact⟨hdf,{g' with len:=fun _=>none},.inr ⟨d,v,_,rfl,hK,hp,Aft3.mkU hR'.rw hpk⟩⟩}|_=>{exact hq0.elim}
def qqW {α:Type}(f g:Nat->Option α):Prop:=∀k x,g k=some x->f k=some x
theorem qza {α:Type}{f:Nat->Option α}:qqW f nix:=fun _ _ h=>by cases h
theorem qzd {α:Type}{f g:Nat->Option α}{k:Nat}{x:α}(h:f k=some x)(hg:qqW f g):qqW f (put k x g):=by
 intro j y hy;unfold put at hy;split at hy;{rename_i e;subst e;simp only[Option.some.injEq]at hy;subst hy;exact h};exact hg j y hy
theorem sP1 {α:Type}{k0:Nat}{v0:α}{f g:Nat->Option α}(h:qqW f g)(a0:f k0=some v0:=by exact rfl):qqW f (put k0 v0 g):=qzd a0 (h)
theorem sP2 {α:Type}{k0 k1:Nat}{v0 v1:α}{f g:Nat->Option α}(h:qqW f g)(a0:f k0=some v0:=by exact rfl)(a1:f k1=some v1:=by exact rfl):qqW f (put k0 v0 (put k1 v1 g)):=qzd a0 (qzd a1 (h))
theorem sP3 {α:Type}{k0 k1 k2:Nat}{v0 v1 v2:α}{f g:Nat->Option α}(h:qqW f g)(a0:f k0=some v0:=by exact rfl)(a1:f k1=some v1:=by exact rfl)(a2:f k2=some v2:=by exact rfl):qqW f (put k0 v0 (put k1 v1 (put k2 v2 g))):=qzd a0 (qzd a1 (qzd a2 (h)))
theorem sP4 {α:Type}{k0 k1 k2 k3:Nat}{v0 v1 v2 v3:α}{f g:Nat->Option α}(h:qqW f g)(a0:f k0=some v0:=by exact rfl)(a1:f k1=some v1:=by exact rfl)(a2:f k2=some v2:=by exact rfl)(a3:f k3=some v3:=by exact rfl):qqW f (put k0 v0 (put k1 v1 (put k2 v2 (put k3 v3 g)))):=qzd a0 (qzd a1 (qzd a2 (qzd a3 (h))))
theorem sP5 {α:Type}{k0 k1 k2 k3 k4:Nat}{v0 v1 v2 v3 v4:α}{f g:Nat->Option α}(h:qqW f g)(a0:f k0=some v0:=by exact rfl)(a1:f k1=some v1:=by exact rfl)(a2:f k2=some v2:=by exact rfl)(a3:f k3=some v3:=by exact rfl)(a4:f k4=some v4:=by exact rfl):qqW f (put k0 v0 (put k1 v1 (put k2 v2 (put k3 v3 (put k4 v4 g))))):=qzd a0 (qzd a1 (qzd a2 (qzd a3 (qzd a4 (h)))))
theorem sP6 {α:Type}{k0 k1 k2 k3 k4 k5:Nat}{v0 v1 v2 v3 v4 v5:α}{f g:Nat->Option α}(h:qqW f g)(a0:f k0=some v0:=by exact rfl)(a1:f k1=some v1:=by exact rfl)(a2:f k2=some v2:=by exact rfl)(a3:f k3=some v3:=by exact rfl)(a4:f k4=some v4:=by exact rfl)(a5:f k5=some v5:=by exact rfl):qqW f (put k0 v0 (put k1 v1 (put k2 v2 (put k3 v3 (put k4 v4 (put k5 v5 g)))))):=qzd a0 (qzd a1 (qzd a2 (qzd a3 (qzd a4 (qzd a5 (h))))))
def wxe:List Nat->S->(S->Prop)->Prop
 |[],s,K=>K s
 |r::l,s,K=>sm (s.ar r) fun a=>wxe l {s with bx:=mapf (Box.fz r a.2.2.length (.sl a.1 a.2.2 false)) s.bx,ar:=del r s.ar} K
theorem zqo {z:Bg}{ds:List Deferred}{a:Act}{w:World}:∀{l:List Nat} {g:Gh} {s:S} {K:S->Prop},R z g ds s a w->wxe l s K->∃g' s',K s'/\R z g' ds s' a w/\Gh.le g g'
 |[],g,s,K,hR,h=>⟨g,s,h,hR,Gh.le_refl g⟩
 |r::l,g,s,K,hR,h=>by
  obtain⟨⟨sz,ty,xs⟩,har,h⟩:=h;obtain⟨g1,hl1,_,hw,_⟩:=hR.rw.freeze har;obtain⟨g2,s2,hK,hR2,hl2⟩:=zqo (hR.turn hl1 hw) h;exact⟨g2,s2,hK,hR2,hl1.trans hl2⟩
def wwj (pk:List Nat)(f:Bx):Bx:=ovS f (outB pk f)
structure NS (bx:Bx):Prop where
 fgt:∀d,mapf (Box.fgt d) bx=bx
 fz:∀r n x,mapf (Box.fz r n x) bx=bx
 fzb:∀k ds,mapf (Box.fzb k ds) bx=bx
 lo:∀k,k<1000->bx k=none
 dc:∀k b,bx k=some b->dC b.cells=b.cells
theorem wxr {h:LV->LV}{hs:List LV->List LV}(h1:hs []=[])(h2:∀x xs,hs (x::xs)=h x::hs xs)(hd:∀x,h (.d x)=.d x)(hu:h .un=.un):∀{xs:List LV},dC xs=xs->hs xs=xs
 |[],_=>h1
 |x::xs,e=>by
  simp only[dC,List.cons.injEq]at e;rw[h2,wxr h1 h2 hd hu e.2];congr 1;cases x with|d x=>{exact hd x}|un=>{exact hu}|_=>{exact absurd e.1 (by intro h;cases h)}
theorem zjf {h:Box->Box}{bx:Bx}(hh:∀k b,bx k=some b->h b=b):mapf h bx=bx:=by
 funext k;unfold mapf;cases e:bx k with|none=>{rfl}|some b=>{simp only[Option.map_some,hh k b e]}
theorem NS.mk' {bx:Bx}(h:∀k b,bx k=some b->1000<=k/\dC b.cells=b.cells):NS bx where
 fgt d:=zjf fun k b hk=>by
  obtain⟨cs,ty⟩:=b;have:=(h k _ hk).2;simp only[Box.fgt,Box.mk.injEq,and_true];exact wxr (h:=Lx.fgt d) (hs:=fgts d) (by simp only[fgts]) (fun x xs=>by simp only[fgts]) (fun x=>by simp only[Lx.fgt]) (by simp only[Lx.fgt]) this
 fz r n x:=zjf fun k b hk=>by
  obtain⟨cs,ty⟩:=b;have:=(h k _ hk).2;simp only[Box.fz,Box.mk.injEq,and_true];exact wxr (h:=Lx.fz r n x) (hs:=fzs r n x) (by simp only[fzs]) (fun x xs=>by simp only[fzs]) (fun x=>by simp only[Lx.fz]) (by simp only[Lx.fz]) this
 fzb k' ds:=zjf fun k b hk=>by
  obtain⟨cs,ty⟩:=b;have:=(h k _ hk).2;simp only[Box.fzb,Box.mk.injEq,and_true];exact wxr (h:=Lx.fzb k' ds) (hs:=fzbL k' ds) (by simp only[fzbL]) (fun x xs=>by simp only[fzbL]) (fun x=>by simp only[Lx.fzb]) (by simp only[Lx.fzb]) this
 lo k hk:=by
  cases e:bx k with|none=>{rfl}|some b=>{have:=(h k b e).1;omega}
 dc k b hk:=(h k b hk).2
def wwn (bx:Bx):List Nat->Prop
 |[]=>True
 |k::ks=>1000<=k/\k<1000000/\(sm (bx k) fun _=>True)/\wwn bx ks
theorem zjZ {bx:Bx}:∀{ks:List Nat},wwn bx ks->∀k∈ks,1000<=k/\k<1000000/\∃b,bx k=some b
 |j::ks,h,k,hk=>by
  cases hk with|head=>{exact⟨h.1,h.2.1,h.2.2.1.imp fun _ h=>h.1⟩}|tail _ hk=>{exact zjZ h.2.2.2 k hk}
def ww2 (E:Env)(rs:List ResultVar)(pk:List Nat)(Kr:LV->Bx->Ar1->Prop)(s:S):Prop:=
 ∃fl,wxe fl s fun s=>resK E rs s fun xs=>frzR s xs fun ds s'=>okD s'.bx pk/\∃es bf,D.les ds es/\qqW (wwj pk s'.bx) bf/\Kr (one1 es) bf none
def wxp (E:Env)(rs:List ResultVar)(pk:List Nat)(Kr:LV->Bx->Ar1->Prop):Ex->S->Prop
 |.exit _,_=>False
 |.normal,s=>ww2 E rs pk Kr s
 |.ret,s=>ww2 E rs pk Kr s
def jxl (pk:List Nat)(Kp:D->Bx->Prop)(d:D)(s:S):Prop:=∃bf,okD s.bx pk/\qqW (wwj pk s.bx) bf/\Kp d bf
theorem qjQ {pk:List Nat}{f:Bx}{j:Nat}{b:Box}(h:wwj pk f j=some b):∃b₀,f j=some b₀/\b.ty=b₀.ty/\(1000000<=j/\b.cells=dC b₀.cells\/j<1000000/\j∈pk/\b=b₀):=by
 rcases qvU h with⟨h1,b₀,h2,rfl⟩|⟨h1,h2⟩;exact⟨b₀,h2,rfl,.inl ⟨h1,rfl⟩⟩;{obtain⟨h3,h4⟩:=qqP h2;exact⟨b,h4,rfl,.inr ⟨h1,h3,rfl⟩⟩}
theorem AftS.mk' {g₀:Gh}{bx:Bx}{w w':World}{g:Gh}{bx':Bx}{ar:Ar}{pk:List Nat}(h:Rw ⟨qq0 g₀ bx,g₀,w⟩ g bx' ar w')(hpk:∀k∈pk,1000<=k/\k<1000000/\∃b,bx k=some b)(hok:okD bx' pk){bf:Bx}(hs:qqW (wwj pk bx') bf):
  AftS g₀ bx w {g with len:=fun _=>none} bf w' where
 Φ:=h.mine.le
 fr:=h.fr
 fix:=h.mine.fix
 wd:=by
  refine⟨fun k b hk=>?_,fun r sz ty xs hr=>(by cases hr),fun r=>rfl,h.wd.fx,fun k k' b b' hk hk'=>?_,fun r r' a a' hr=>(by cases hr),fun k r b a hk hr=>(by cases hr),fun k b o hk=>?_,fun r a o hr=>(by cases hr)⟩;{obtain⟨b₀,h1,h2,h3⟩:=qjQ (hs k b hk);obtain⟨vs,h4,h5⟩:=h.wd.box k b₀ h1;rw[h2];rcases h3 with⟨_,h3⟩|⟨_,h6,rfl⟩;{rw[h3];exact⟨vs,wzp (g:=g) (g':={g with len:=fun _=>none}) (fun _ _ _ h=>h) h4,h5⟩};{obtain⟨ds,hds⟩:=qws hok k h6 b h1;rw[hds]at h4⊢;exact⟨vs,LRps.ofD h4.toD,h5⟩}};{obtain⟨b₀,h1,_⟩:=qjQ (hs k b hk);obtain⟨b₁,h2,_⟩:=qjQ (hs k' b' hk');exact h.wd.inj k k' b₀ b₁ h1 h2};{obtain⟨b₀,h1,_⟩:=qjQ (hs k b hk);exact h.wd.outb k b₀ o h1}
 keys k b hk:=by
  obtain⟨b₀,h1,_,h3⟩:=qjQ (hs k b hk);have hm:=h.mine.box k b₀ h1;rcases h3 with⟨h4,h5⟩|⟨h4,h6,rfl⟩;exact⟨.inl h4,h.keys k (by omega),hm,by rw[h5];exact zj0 _⟩;{obtain⟨ds,hds⟩:=qws hok k h6 b h1;exact⟨.inr (hpk k h6).2.2,h.keys k (hpk k h6).1,hm,by rw[hds];exact zx6 _⟩}
theorem zjD {g:Gh}{bx:Bx}{w:World}{aZ:List LV}{vs:List Value}(has:LRps g aZ vs)(hwd:Wd g bx nix w){n m:Nat}(hm:n=m)(hl:aZ.length<=m):
  R ⟨qq0 g bx,g,w⟩ g [] ⟨m,lay 0 aZ,bx,nix⟩ {tmps:=vs.toArray++Array.replicate (n-vs.toArray.size) undef,defers:=[]} w:=by
 have hlen:=has.length;refine⟨?_,rfl,?_,⟨hwd,Fr.refl _ _,⟨fun k b hk=>.inl ⟨k,b,hk,rfl⟩,fun r a hr=>(by cases hr),Phi.le_refl _,fun b o v h=>.inl h⟩,fun k _=>rfl⟩⟩;{simp[hm];omega};{intro k x hk;have hx:aZ[k]?=some x:=by{have:=qva hk;simpa using this.2};obtain⟨v,hv,hr⟩:=has.get hx;have hlt:=getElem?_lt_of hx;have hltv:=getElem?_lt_of hv;refine⟨by show k<m;omega,?_⟩;have:(vs.toArray++Array.replicate (n-vs.toArray.size) undef).getD k undef=v:=by{rw[Array.getD_eq_getD_getElem?,Array.getElem?_append_left (by simpa using hltv)];simp[hv]};rw[this];exact hr}
theorem qjV {P:Program}{E:Env}{sp:FuncId->Option SpecX}(hmix:P.follows .mixedOrders=true)(ht:TOK P E.tl)(hzt:ZOK E.tl)(hsp:∀f Sp,sp f=some Sp->OKX P f Sp){f:FuncId}{fn:Func}{c:Code}{m:Nat}{rs:Array ResultVar}(hf:P.funcs[f]?=some fn)(hb:fn.body=some c)
  (hm:fn.ntmps=m)(hr:fn.results=rs)
  (hent:∀(args:Array Value) (w:World),(callFunc f args).run P w=.ok (.enter f args) w)(pk:List Nat){Sp:qzP}
  (h:∀ys bx Kr Kp,Sp ys bx Kr Kp->NS bx->wwn bx pk/\ys.length<=m/\cK E sp c ⟨m,lay 0 ys,bx,nix⟩ (wxp E rs.toList pk Kr) (jxl pk Kp)):OKS P f Sp where
 enters:=hent
 calls aZ bx Kr Kp hS g vs w hst hnm has hwd:=by
  haveI:Stb E ⟨qq0 g bx,g,w⟩:=⟨fun _=>hst⟩;obtain⟨hpk,hl,hcK⟩:=h aZ bx Kr Kp hS (.mk' hnm);have hpk:=zjZ hpk;refine calls_of_wp hf hb ?_;refine wp_mono (qxK hmix ht hzt hsp c _ g _ _ w (zjD has hwd hm hl) hcK) fun e a' w'=>?_;have fin:∀g' s',ww2 E rs.toList pk Kr s'->R ⟨qq0 g bx,g,w⟩ g' [] s' a' w'-> a'.defers=[]/\∃v,(results fn a'.tmps).run P w'=.ok v w'/\∃g'',(∃x v' bx',Ending.returned v=.returned v'/\Kr x bx' none/\LRp g'' x v'/\AftS g bx w g'' bx' w')\/ (∃d v' bx',Ending.returned v=.panicked [{v:=v',recovered:=false}]/\Kp d bx'/\Rp g''.Φ d v'/\AftS g bx w g'' bx' w'):=by{rintro g' s' ⟨fl,hq⟩ hR';obtain⟨g1,s1,hq,hR1,_⟩:=zqo hR' hq;obtain⟨xs,us,hK,hr',hrun⟩:=qkj ht hR1 hq;refine⟨hR'.defers,_,qjr (hr▸hrun),?_⟩;obtain⟨g2,es',s2,⟨hok,es,bf,hle,hsub,hK⟩,hR2,hl,hp',hs⟩:=qvf hR1 hr' hK;have hp:=hp'.les hle;refine⟨_,.inl ⟨_,_,_,rfl,hK,?_,AftS.mk' hR2.rw hpk hok hsub⟩⟩;cases hp with|nil=>{exact .tup .nil}|cons h1 t1=>{cases t1 with|nil=>{exact .d h1}|cons h2 t2=>{exact .tup (.cons (.d h1) (.cons (.d h2) (LRps.ofD t2)))}}};intro hq0;cases e with|normal=>{obtain⟨g',s',hq,hR'⟩:=hq0;exact fin g' s' hq hR'}|ret=>{obtain⟨g',s',hq,hR'⟩:=hq0;exact fin g' s' hq hR'}|exit i=>{obtain⟨g',s',hq,hR'⟩:=hq0;exact hq.elim}|panic ch=>{obtain⟨g',d,v,s',a'',rfl,⟨bf,hok,hsub,hK⟩,hp,hR',hdf,_⟩:=hq0;exact⟨hdf,{g' with len:=fun _=>none},.inr ⟨d,v,_,rfl,hK,hp,AftS.mk' hR'.rw hpk hok hsub⟩⟩}|_=>{exact hq0.elim}
end Lx
