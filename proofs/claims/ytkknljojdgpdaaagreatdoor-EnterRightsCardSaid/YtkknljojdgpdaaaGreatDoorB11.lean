import Derived.Test.YtkknljojdgpdaaaGreatDoorB07
import Derived.Recover
set_option maxHeartbeats 32000000
set_option linter.unusedSimpArgs false
set_option linter.unusedVariables false
set_option linter.unusedSectionVars false
namespace Lx
open Go
theorem wjE {g:Gh}{bx:Bx}{w:World}{aZ:List LV}{vs:List Value}(has:LRps g aZ vs)(hwd:Wd g bx nix w){n:Nat}{pk:List Nat}{s₀:S}(hst:Start aZ bx n pk s₀):
  R ⟨qq0 g bx,g,w⟩ g [] s₀ {tmps:=vs.toArray++Array.replicate (n-vs.toArray.size) undef,defers:=[]} w:=by
 have hlen:=has.length;refine⟨?_,rfl,?_,⟨⟨?_,?_,?_,hwd.fx,?_,?_,?_,?_,?_⟩,Fr.refl _ _,⟨?_,?_,Phi.le_refl _,fun b o v h=>.inl h⟩,fun k _=>rfl⟩⟩;{simp[hst.n,hlen]};{intro k x hk;have hx:=hst.tm k x hk;obtain⟨v,hv,hr⟩:=has.get hx;have hlt:=getElem?_lt_of hx;have hltv:=getElem?_lt_of hv;refine⟨by rw[hst.n];omega,?_⟩;have:(vs.toArray++Array.replicate (n-vs.toArray.size) undef).getD k undef=v:=by{rw[Array.getD_eq_getD_getElem?,Array.getElem?_append_left (by simpa using hltv)];simp[hv]};rw[this];exact hr};{intro k b hk;exact hwd.box k b (hst.bx k b hk)};{intro r sz ty xs hr;rw[hst.ar]at hr;cases hr};{intro r;rw[hst.ar];exact hwd.len r};exact fun k k' b b' hk hk'=>hwd.inj k k' b b' (hst.bx k b hk) (hst.bx k' b' hk');{intro r r' a a' hr;rw[hst.ar]at hr;cases hr};{intro k r b a hk hr;rw[hst.ar]at hr;cases hr};exact fun k b o hk=>hwd.outb k b o (hst.bx k b hk);{intro r a o hr ho;rw[hst.ar]at hr;cases hr};exact fun k b hk=>.inl ⟨k,b,hst.bx k b hk,rfl⟩;{intro r a hr;rw[hst.ar]at hr;cases hr}
abbrev qxR:=Option D->Bx->(Bx->Prop)->Prop
def bps (n:Nat):List LV:=(List.range n).map fun i=>.bp (1000+i) 0
def capK (n:Nat):List Nat:=(List.range n).map (1000+ ·)
inductive Md (Φ:Nat->Nat->Option Value):Option D->FrameMode->FrameMode->Prop
 |ret:Md Φ none .returning .returning
 |pan {d:D} {v:Value} (h:Rp Φ d v):Md Φ (some d) (.panicking [{v:=v,recovered:=false}]) (.panicking [{v:=v,recovered:=true}])
structure OKD (P:Program)(f:FuncId)(n:Nat)(Sp:qxR):Prop where
 enters:∀(args:Array Value) (w:World),(callFunc f args).run P w=.ok (.enter f args) w
 calls:∀(m:Option D) (bx:Bx) (K:Bx->Prop),Sp m bx K->∀(g:Gh) (vs:List Value) (w:World) (u u':FrameMode),LRps g (bps n) vs->Wd g bx nix w->Md g.Φ m u u'->
  CallsD P f vs.toArray u w fun e u1 w'=>∃v bx' g',e=.returned v/\u1=u'/\K bx'/\Aft g bx w g' bx' none w'
section
variable {P:Program}{E:Env}{sp:FuncId->Option SpecX}{z:Bg}[Stb E z] {ds:List Deferred}
theorem zjV (ht:TOK P E.tl)(hzt:ZOK E.tl)(hsp:∀f Sp,sp f=some Sp->OKX P f Sp){ops:Array Oper}{K:S->Prop}{Q:Exit->Act->List Frame->World->Prop}{cs:List Frame}
  (hn:∀g' s' a' w',K s'->R z g' ds s' a' w'->Q .normal a' cs w'):
  ∀(l:List Oper) (k:Nat),(∀i,i<l.length->ops[k+i]?=l[i]?)->∀(g:Gh) (s:S) (a:Act) (w:World),R z g ds s a w->zxG E sp ops l s K (fun _ _=>False)->wpOpsS P ops Q (List.range' k l.length) a cs w
 |[],k,_,g,s,a,w,hR,h=>by
   show wpOpsS P ops Q [] a cs w;unfold wpOpsS;exact hn g s a w h hR
 |o::l,k,hi,g,s,a,w,hR,h=>by
  have h0:ops[k]?=some o:=by{simpa using hi 0 (by simp)};have hrest:∀g' s' a' w',zxG E sp ops l s' K (fun _ _=>False)->R z g' ds s' a' w'->wpOpsS P ops Q (List.range' (k+1) l.length) a' cs w':=fun g' s' a' w' hK hR'=>zjV ht hzt hsp hn l (k+1) (fun i hl=>by have:=hi (i+1) (by simp only[lB];omega);rw[show k+1+i=k+(i+1) by omega,this];simp) g' s' a' w' hR' hK;have key:=zjb ht hzt hsp hR (K:=fun s'=>zxG E sp ops l s' K (fun _ _=>False)) (Kp:=fun _ _=>False) h (next:=fun a' w'=>wpOpsS P ops Q (List.range' (k+1) l.length) a' cs w') (Q:=fun e a' w'=>Q e a' cs w') (fun g' s' a' w' hK hR'=>hrest g' s' a' w' hK hR') (fun _ _ _ _ _ hf=>hf.elim);show wpOpsS P ops Q (k::List.range' (k+1) l.length) a cs w;unfold wpOpsS;simp only[h0];split;{rename_i hw;rw[if_pos hw]at key;unfold Oper.wp at key;split;{rename_i w' hr;rw[hr]at key;exact key.elim};exact key};{rename_i hw;rw[if_neg hw]at key;exact key}
def clK (pk:List Nat)(K:Bx->Prop):Ex->S->Prop
 |.exit _,_=>False
 |.normal,s=>okD s.bx pk/\K (outB pk s.bx)
 |.ret,s=>okD s.bx pk/\K (outB pk s.bx)
def yqj:Option D->D
 |none=>.imm .nilIface
 |some d=>d
omit [Stb E z] in
theorem zq1 (hmix:P.follows .mixedOrders=true)(ht:TOK P E.tl)(hzt:ZOK E.tl)(hsp:∀f Sp,sp f=some Sp->OKX P f Sp){f:FuncId}{fn:Func}{id:Nat}{r:Oper}{tl:List Oper}{rest:Code}{t m n:Nat}
  (hf:P.funcs[f]?=some fn)(hb:fn.body=some (.seq (.region id (r::tl).toArray false) rest))(hm:fn.ntmps=m)(hres:fn.results=#[])
  (hrd:r.dst=some t)(hro:r.op=.call {callee:=.builtin .recover,args:=#[],argTypes:=#[]})(hrg:r.guard=none)
  (hent:∀(args:Array Value) (w:World),(callFunc f args).run P w=.ok (.enter f args) w){Sp:qxR}
  (h:∀mo bx K,Sp mo bx K->∃B,B.map (·.1)=capK n/\ww0 bx B/\n<=m/\t<m/\
    zxG E sp (r::tl).toArray tl ⟨m,put t (.d (yqj mo)) (lay 0 (bps n)),zwm B,nix⟩ (fun s'=>cK E sp rest s' (clK (capK n) K) (fun _ _=>False)) (fun _ _=>False))(hE:E.hp=false:=by rfl):OKD P f n Sp where
 enters:=hent
 calls mo bx K hS g vs w u u' hvs hwd hmd:=by
  haveI:Stb E ⟨qq0 g bx,g,w⟩:=⟨fun e=>by rw[hE]at e;cases e⟩;obtain⟨B,hB,hh,hnm,htm,hops⟩:=h mo bx K hS;refine callsD_of_wpS hf hb fun c₀ cs hu=>?_;have hln:(bps n).length=n:=by{simp[bps]};have hst:Start (bps n) bx fn.ntmps (capK n) ⟨m,lay 0 (bps n),zwm B,nix⟩:=by{refine⟨?_,?_,?_,fun k=>rfl,?_⟩;{rw[hm,hln];show m=_;omega};{intro k x hk;have:=qva hk;simpa using this.2};{intro k b hk;exact qqO hh hk};{rw[<-hB];exact qvY hh}};have hR0:=wjE hvs hwd hst;apply wpS_seq;apply wpS_region;have hrange:List.range (r::tl).toArray.size=0::List.range' 1 tl.length:=by{simp only[List.size_toArray,lB];rw[List.range_eq_range'];rfl};rw[hrange];have hx:∀(a:Act) (w:World),(execOp a.eval r).run P w=.ok .recover w:=by{intro a w;simp[execOp,hro,resolve,invoke,builtin]};have fin:∀(q:Value) (cs':List Frame),Rp g.Φ (yqj mo) q->cs'={c₀ with mode:=u'}::cs-> wpOpsS P (r::tl).toArray (Exit.thenS (rest.wpS P (bodyPostS P fn c₀ cs fun e u1 w'=>∃v bx' g',e=.returned v/\u1=u'/\K bx'/\Aft g bx w g' bx' none w')) (bodyPostS P fn c₀ cs fun e u1 w'=>∃v bx' g',e=.returned v/\u1=u'/\K bx'/\Aft g bx w g' bx' none w')) (List.range' 1 tl.length) (({tmps:=vs.toArray++Array.replicate (fn.ntmps-vs.toArray.size) undef,defers:=[]}:Act).put (some t) q) cs' w:=by{rintro q cs' hq rfl;have hR1:=hR0.pt (d:=some t) (x:=.d (yqj mo)) (v:=q) (by show t<m;exact htm) (.d hq);refine zjV ht hzt hsp (fun g' s' a' w' hK hR'=>?_) tl 1 (fun i hi=>?_) g _ _ w hR1 hops;{show Code.wpS P rest _ a' _ w';refine wpS_of_wp (wp_mono (qxK hmix ht hzt hsp rest _ g' s' a' w' hR' hK) fun e a2 w2 hq2=>?_);have done:∀g' s',okD s'.bx (capK n)->K (outB (capK n) s'.bx)->R ⟨qq0 g bx,g,w⟩ g' [] s' a2 w2-> a2.defers=[]/\∃u1,({c₀ with mode:=u'}::cs)={c₀ with mode:=u1}::cs/\∃v,(results fn a2.tmps).run P w2=.ok v w2/\∃v' bx' g',Ending.returned v=.returned v'/\u1=u'/\K bx'/\Aft g bx w g' bx' none w2:=by{intro g' s' hok hK hR';exact⟨hR'.defers,u',rfl,.tuple #[],by simp[results,hres],_,_,_,rfl,rfl,hK,Aft.mk' hR'.rw hst.pk hok none⟩};cases e with|normal=>{obtain⟨g',s',⟨h1,h2⟩,hR'⟩:=hq2;exact done g' s' h1 h2 hR'}|ret=>{obtain⟨g',s',⟨h1,h2⟩,hR'⟩:=hq2;exact done g' s' h1 h2 hR'}|exit i=>{obtain⟨g',s',hq,hR'⟩:=hq2;exact hq.elim}|panic ch=>{obtain⟨g',d,v,s',a',_,hq,_⟩:=hq2;exact hq.elim}|_=>{exact hq2.elim}};{simp only[List.getElem?_toArray];rw[Nat.add_comm,List.getElem?_cons_succ]}};unfold wpOpsS;have h0:(r::tl).toArray[0]?=some r:=by{simp};simp only[h0,Region.wanted,hrg,if_true,hx,hrd];cases hmd with|ret=>{have hrec:recoverD (c₀::cs)=none:=by{simp[recoverD,hu]};rw[hrec];exact fin .nilIface _ (.imm _) (by rw[<-hu])}|pan hd=>{rename_i d v;have hrec:recoverD (c₀::cs)=some (v,{c₀ with mode:=.panicking [{v:=v,recovered:=true}]}::cs):=by{simp[recoverD,hu]};rw[hrec];exact fin v _ hd rfl}
inductive Spine:Code->Code->Code->Prop
 |one (a b:Code):Spine (.seq a b) a b
 |more (x:Code) {c a b:Code} (h:Spine c a b):Spine (.seq x c) (.seq x a) b
theorem zvE (hmix:P.follows .mixedOrders=true)(ht:TOK P E.tl)(hzt:ZOK E.tl)(hsp:∀f Sp,sp f=some Sp->OKX P f Sp){Q:Ex->S->Prop}{QQ:Exit->Act->World->Prop}
  {c A B:Code}(hs:Spine c A B)(hret:∀g' s' a' w',Q .ret s'->R z g' ds s' a' w'->QQ .ret a' w')(hex:∀i s',Q (.exit i) s'->False)
  (hn:∀g' s' a' w',Q .normal s'->R z g' ds s' a' w'->B.wp P QQ a' w'):
  ∀(g:Gh) (s:S) (a:Act) (w:World),R z g ds s a w->cK E sp A s Q (fun _ _=>False)->c.wp P QQ a w:=by
 induction hs with|one x y=>{intro g s a w hR h;refine wp_seq (wp_mono (qxK hmix ht hzt hsp x _ g s a w hR h) fun e a' w' hq=>?_);cases e with|normal=>{obtain⟨g',s',hq,hR'⟩:=hq;exact hn g' s' a' w' hq hR'}|ret=>{obtain⟨g',s',hq,hR'⟩:=hq;exact hret g' s' a' w' hq hR'}|exit i=>{obtain⟨g',s',hq,hR'⟩:=hq;exact(hex i s' hq).elim}|panic ch=>{obtain⟨g',d,v,s',a',_,hq,_⟩:=hq;exact hq.elim}|_=>{exact hq.elim}}|more x hs ih=>{intro g s a w hR h;refine wp_seq (wp_mono (qxK hmix ht hzt hsp x _ g s a w hR h) fun e a' w' hq=>?_);cases e with|normal=>{obtain⟨g',s',hq,hR'⟩:=hq;exact ih hn g' s' a' w' hR' hq}|ret=>{obtain⟨g',s',hq,hR'⟩:=hq;exact hret g' s' a' w' hq hR'}|exit i=>{obtain⟨g',s',hq,hR'⟩:=hq;exact(hex i s' hq).elim}|panic ch=>{obtain⟨g',d,v,s',a',_,hq,_⟩:=hq;exact hq.elim}|_=>{exact hq.elim}}
def zqe:List (Nat×LV)->Nat->Option LV
 |[]=>nix
 |(i,x)::l=>put i x (zqe l)
def fpl (bx:Bx):Nat->List Nat->Bx
 |_,[]=>nix
 |i,k::ks=>match bx k with
  |some b=>put i b (fpl bx (i+1) ks)
  |none=>fpl bx (i+1) ks
theorem wzb {bx:Bx}:∀(ks:List Nat) (i j:Nat),fpl bx i ks j=if i<=j then(nth ks (j-i)).bind bx else none
 |[],i,j=>by simp[fpl,nix,nth]
 |k::ks,i,j=>by
  have ih:=wzb (bx:=bx) ks (i+1) j;have step:(if i+1<=j then(nth ks (j-(i+1))).bind bx else none)=if j=i then none else if i<=j then(nth (k::ks) (j-i)).bind bx else none:=by{by_cases h1:j=i;{subst h1;rw[if_pos rfl,if_neg (by omega)]};{rw[if_neg h1];by_cases h2:i<=j;{rw[if_pos h2,if_pos (by omega)];have:j-i=(j-(i+1))+1:=by{omega};rw[this];rfl};{rw[if_neg h2,if_neg (by omega)]}}};unfold fpl;cases hb:bx k with|some b=>{by_cases h1:j=i;{subst h1;simp[put,nth,hb]};{simp only[put,if_neg h1,ih,step]}}|none=>{simp only[ih,step];by_cases h1:j=i;{subst h1;simp[nth,hb]};{rw[if_neg h1]}}
theorem yxq (bx:Bx)(ks:List Nat):fpl bx 1000 ks=fp ks bx:=by
 funext j;rw[wzb];rfl
def wvx (E:Env)(n:Nat)(Sc:qxR)(rs:List ResultVar)(Fk:List LV->S->Prop)(mo:Option D)(s:S):Prop:=
 okB s.bx (capK n)/\Sc mo (fp (capK n) s.bx) fun bx4=>resK E rs {s with bx:=mrg (capK n) bx4 s.bx} fun xs=>Fk xs {s with bx:=mrg (capK n) bx4 s.bx}
def yxE (s:S)(k:Nat)(b:Box)(K:S->Prop):Prop:=∀vs:List Value,vs.length=b.cells.length->(∀v∈vs,v.oneCell'=true)->K {s with bx:=put k ⟨vs.map fun v=>.d (.imm v),b.ty⟩ s.bx}
def zj2:List Nat->S->(S->Prop)->Prop
 |[],s,K=>K s
 |k::l,s,K=>sm (s.bx k) fun b=>yxE s k b fun s=>zj2 l s K
theorem zx8 {z:Bg}{ds:List Deferred}{a:Act}{w:World}:∀{l:List Nat} {g:Gh} {s:S} {K:S->Prop},R z g ds s a w->zj2 l s K->∃s',K s'/\R z g ds s' a w
 |[],g,s,K,hR,h=>⟨s,h,hR⟩
 |k::l,g,s,K,hR,h=>by
  obtain⟨b,hb,h⟩:=h;obtain⟨vs,hvs,hh,hone⟩:=hR.wd.box k b hb;have hc:LRps g (vs.map fun v=>.d (.imm v)) vs:=by{clear hvs hh hone h;induction vs with|nil=>{exact .nil}|cons v vs ih=>{exact .cons (.d (.imm v)) ih}};have hw:=hR.rw.setBox hb (cs:=vs.map fun v=>.d (.imm v)) (vs:=vs) (w':=w) ⟨rfl,rfl,rfl,rfl,hh,fun _ _=>rfl⟩ hc hone;exact zx8 (s:={s with bx:=put k ⟨vs.map fun v=>.d (.imm v),b.ty⟩ s.bx}) ⟨hR.size,hR.defers,hR.tm,hw⟩ (h vs hvs.length.symm hone)
def wzd (E:Env)(n:Nat)(Sc:qxR)(rs:List ResultVar)(Fk:List LV->S->Prop)(mo:Option D)(s:S):Prop:=
 ∃l bl,wxe l s fun s=>zj2 bl s fun s=>wvx E n Sc rs Fk mo s
def yvJ (E:Env)(n:Nat)(Sc:qxR)(rs:List ResultVar)(Fk:List LV->S->Prop):Ex->S->Prop
 |.exit _,_=>False
 |.normal,s=>wzd E n Sc rs Fk none s
 |.ret,s=>wzd E n Sc rs Fk none s
theorem CallsD.mono' {P:Program}{f:FuncId}{args:Array Value}{u:FrameMode}{w:World}{R R':Ending->FrameMode->World->Prop}(h:CallsD P f args u w R)(hr:∀e u' w',R e u' w'->R' e u' w'):CallsD P f args u w R':=
 fun c cs hu=>let⟨e,u',w',fr,h1,h2⟩:=h c cs hu;⟨e,u',w',fr,hr _ _ _ h1,h2⟩
def wzS (E:Env)(sp:FuncId->Option SpecX)(d n:Nat)(cs:List Nat)(B2:Code)(Sc:qxR)(rs:List ResultVar)(Fk:List LV->S->Prop)(s:S):Prop:=
 ∃(ks:List Nat) (L:List (Nat×LV)),d<s.n/\(∀p∈L,p.1≠d)/\nodup ks=true/\qj5 ks=true/\okB s.bx ks/\n<=ks.length/\cs.map s.tm=(ks.take n).map (fun k=>some (.bp k 0))/\(∀p∈L,s.tm p.1=some p.2)/\(∀k∈kyss (L.map (·.2)),k∈ks)/\
   cK E sp B2 ⟨s.n,zqe (L.map fun p=>(p.1,ren ks p.2)),ovS s.bx (fpl s.bx 1000 ks),nix⟩ (yvJ E n Sc rs Fk) (fun d s'=>wzd E n Sc rs Fk (some d) s')
def ww4 (E:Env)(sp:FuncId->Option SpecX)(d n:Nat)(cs:List Nat)(B2:Code)(Sc:qxR)(rs:List ResultVar)(Fk:List LV->S->Prop):Ex->S->Prop
 |.exit _,_=>False
 |.normal,s=>wzS E sp d n cs B2 Sc rs Fk s
 |.ret,s=>resK E rs s fun xs=>Fk xs s
def wj1 (E:Env):List ResultVar->Bool
 |[]=>true
 |.cell t _::r=> !E.vis t&&wj1 E r
 |_=>false
theorem zqW {E:Env}{tm tm':Array Value}:∀{rs:List ResultVar},wj1 E rs=true->(∀k,E.vis k=false->tm.getD k undef=tm'.getD k undef)->
  (rs.mapM fun r=>(match r with
    |.tmp t=>pure (tm.getD t undef)
    |.cell p t=>(do loadVar t (<-asAddr (tm.getD p undef))):Sem Value))=(rs.mapM fun r=>(match r with
    |.tmp t=>pure (tm'.getD t undef)
    |.cell p t=>(do loadVar t (<-asAddr (tm'.getD p undef))):Sem Value))
 |[],_,_=>rfl
 |.tmp t::r,h,_=>by simp[wj1]at h
 |.cell t ty::r,h,hk=>by
   simp only[wj1,Bool.and_eq_true,Bool.not_eq_true']at h;simp only[List.mapM_cons,hk t h.1,zqW h.2 hk]
theorem zzu {g:Gh}{a:Array Value}:∀{L:List (Nat×LV)},(∀p∈L,LRp g p.2 (a.getD p.1 undef))->∀{k:Nat} {x:LV},zqe L k=some x->(∃p∈L,p.1=k)/\LRp g x (a.getD k undef)
 |[],_,_,_,h=>by cases h
 |(i,y)::L,hL,k,x,h=>by
   unfold zqe put at h;split at h;{rename_i e;subst e;simp only[Option.some.injEq]at h;subst h;exact⟨⟨_,.head _,rfl⟩,hL _ (.head _)⟩};{obtain⟨⟨p,hp,e⟩,h2⟩:=zzu (fun p hp=>hL p (.tail _ hp)) h;exact⟨⟨p,.tail _ hp,e⟩,h2⟩}
theorem yxC {g:Gh}{n:Nat}:LRps g (bps n) ((List.range n).map fun i=>.pointer (some ⟨g.β (1000+i),0,none⟩)):=by
 unfold bps;generalize List.range n=l;induction l with|nil=>{exact .nil}|cons i l ih=>{exact .cons (.bp _ 0) ih}
omit [Stb E z] in
theorem wxd {K K':D->S->Prop}(h:∀d s,K d s->K' d s){x:LV}{s:S}(hk:frz s x K):frz s x K':=by
 unfold frz at hk⊢;split at hk;exact qw6 (fun ds s hk=>h _ _ hk) hk;exact zxv h hk
omit [Stb E z] in
theorem qw7:∀{xs:List LV} {K K':List D->S->Prop} (_:∀ds s,K ds s->K' ds s) {s:S},frzR s xs K->frzR s xs K'
 |[],K,K',h,s,hk=>h _ _ hk
 |x::xs,K,K',h,s,hk=>wxd (fun d s1 hk=>qw7 (fun ds s2 hk=>h _ _ hk) hk) hk
theorem wxu {g:Gh}{bx:Bx}{ar:Ar}{w:World}{E':Env}{zz:Bg}[Stb E' zz] (he:E'.hp=true)(h1:Rw zz g bx ar w){ks:List Nat}(hs:qj5 ks=true){g4:Gh}{bx4:Bx}{ar4:Ar}{w4:World}(h2:Rw ⟨qq0 (g.bareS ks) (ovS bx (fp ks bx)),g.bareS ks,w⟩ g4 bx4 ar4 w4):
  Phi.le zz.g.Φ g4.Φ/\Fr zz.own zz.w w4/\(∀b o v,g4.Φ b o=some v->zz.g.Φ b o=some v\/zz.own b\/zz.w.heap.size<=b)/\∀k b,bx4 k=some b->zz.own (g4.β k)\/zz.w.heap.size<=g4.β k:=by
 have hown:∀b,qq0 (g.bareS ks) (ovS bx (fp ks bx)) b->zz.own b\/zz.w.heap.size<=b:=by{rintro b ⟨j,x,hj,hb⟩;obtain⟨k,b₀,h3,_,h4,_⟩:=qjv he h1 hs hj;rw[h4]at hb;rw[<-hb];exact h1.mine.box k b₀ h3};refine⟨Phi.le_trans h1.mine.le h2.mine.le,h1.fr.after h2.fr hown,fun b o v hv=>?_,fun k b hk=>?_⟩;{rcases h2.mine.fix b o v hv with h|h|h;exact h1.mine.fix b o v h;exact .inr (hown b h);exact .inr (.inr (Nat.le_trans h1.fr.size h))};{rcases h2.mine.box k b hk with h|h;exact hown _ h;exact .inr (Nat.le_trans h1.fr.size h)}
omit [Stb E z] in
theorem zx5 (hmix:P.follows .mixedOrders=true)(ht:TOK P E.tl)(hzt:ZOK E.tl)(hsp:∀f Sp,sp f=some Sp->OKX P f Sp){f fc:FuncId}{fn:Func}{c A B2:Code}{id n d m:Nat}{mf df:Oper}{cs:List Nat}{rs:Array ResultVar}{Sc:qxR}
  (hcl:OKD P fc n Sc)(hf:P.funcs[f]?=some fn)(hb:fn.body=some c)(hm:fn.ntmps=m)(hr:fn.results=rs)
  (hs:Spine c A (.seq (.region id #[mf,df] false) B2))
  (hmf:mf.op=.makeFunc (.func fc) #[] (cs.map Operand.tmp).toArray)(hmd:mf.dst=some d)(hmg:mf.guard=none)
  (hdf:df.op=.defer {callee:=.value (.tmp d),args:=#[],argTypes:=#[]})(hdd:df.dst=none)(hdg:df.guard=none)
  (hcn:cs.length=n)(hvis:wj1 E rs.toList=true){bx:Bx}{aZ:List LV}{g:Gh}{vs:List Value}{w:World}(hst:∀k,1000000<=k->g.β k=k-1000000)(has:LRps g aZ vs)(hwd:Wd g bx nix w)(hlen:aZ.length<=m)
  {Fk:List LV->S->Prop}{G:List D->Bx->Prop}(hF:∀xs s,Fk xs s->frzR s xs fun ds s'=>∃es,D.les ds es/\G es s'.bx)
  (hc:cK E sp A ⟨m,lay 0 aZ,bx,nix⟩ (ww4 E sp d n cs B2 Sc rs.toList Fk) (fun _ _=>False)){Post:Ending->World->Prop}
  (hpost:∀(g6:Gh) (bx6:Bx) (ar6:Ar) (w6:World) (es:List D) (us:List Value),G es bx6->Rps g6.Φ es us->Wd g6 bx6 ar6 w6->(∀k,1000000<=k->g6.β k=k-1000000)->Phi.le g.Φ g6.Φ->Fr (qq0 g bx) w w6->
    (∀b o v,g6.Φ b o=some v->g.Φ b o=some v\/qq0 g bx b\/w.heap.size<=b)->(∀k b,bx6 k=some b->qq0 g bx (g6.β k)\/w.heap.size<=g6.β k)->Post (.returned (yq6 us)) w6):
  Calls P f vs.toArray w Post:=by
 have hstz:∀E':Env,Stb E' ⟨qq0 g bx,g,w⟩:=fun E'=>⟨fun _=>hst⟩;haveI:=hstz E;have hR0:=zjD has hwd (n:=fn.ntmps) hm hlen;refine calls_of_wp_defers hf hb ?_;have res:∀(z':Bg) [Stb E z'] (dfs:List Deferred) (g':Gh) (s':S) (a' a'':Act) (w':World),(∀k,E.vis k=false->a''.tmps.getD k undef=a'.tmps.getD k undef)->(resK E rs.toList s' fun xs=>Fk xs s')->R z' g' dfs s' a' w'-> ∃(g2:Gh) (s2:S) (es:List D) (us:List Value),R z' g2 dfs s2 a' w'/\Rps g2.Φ es us/\G es s2.bx/\(results fn a''.tmps).run P w'=.ok (yq6 us) w':=by{intro z' _ dfs g' s' a' a'' w' hv hq hR';obtain⟨xs,us,hK,hr',hrun⟩:=qkj ht hR' hq;obtain⟨g2,es',s2,⟨es,hle,hK⟩,hR2,hl,hp',hs'⟩:=qvf hR' hr' (hF xs s' hK);refine⟨g2,s2,es,us,hR2,hp'.les hle,hK,qjr ?_⟩;rw[hr];exact(congrArg (fun q:Sem (List Value)=>q.run P w') (zqW hvis hv)).trans hrun};refine zvE hmix ht hzt hsp hs (Q:=ww4 E sp d n cs B2 Sc rs.toList Fk) ?_ (fun i s' h=>h) ?_ g _ _ w hR0 hc;{intro g' s' a' w' hq hR';obtain⟨g2,s2,es,us,hR2,hp,hK,hrun⟩:=res _ _ g' s' a' a' w' (fun _ _=>rfl) hq hR';show Leaves P fn a'.tmps _ a'.defers .returning w';rw[hR'.defers];exact⟨_,hrun,hpost g2 s2.bx s2.ar w' es us hK hp hR2.wd (fun k hk=>(hR2.rw.keys k (by omega)).trans (hst k hk)) hR2.rw.mine.le hR2.rw.fr hR2.rw.mine.fix hR2.rw.mine.box⟩};{intro g1 s1 a1 w1 hq hR1;obtain⟨ks,L,hds,hLd,hnd,hsh,hokb,hnk,hcs,hL,hky,hB⟩:=hq;rw[yxq]at hB;have hda:d<a1.tmps.size:=by{rw[hR1.size];exact hds};haveI:=hstz {E with hp:=true};have he:({E with hp:=true}:Env).hp=true:=rfl;have hix:∀i k,i<n->ks[i]?=some k->(g1.bareS ks).β (1000+i)=g1.β k:=by{intro i k hi hk;have h1:=lF (Bool.and_eq_true_iff.1 hsh).1;have h2:=(List.getElem?_eq_some_iff.1 hk).1;simp only[Gh.bareS];rw[if_neg (by omega),Nat.add_sub_cancel_left];simp[hk]};have hcapv:∀i,i<n->∃c k,cs[i]?=some c/\ks[i]?=some k/\a1.tmps.getD c undef=.pointer (some ⟨g1.β k,0,none⟩):=by{intro i hi;have hci:i<cs.length:=by{omega};have hki:i<ks.length:=by{omega};refine⟨cs[i],ks[i],lD hci,lD hki,?_⟩;have h1:=congrArg (fun l=>l[i]?) hcs;simp only[List.getElem?_map,List.getElem?_take,if_pos hi,lD hci,lD hki,Option.map_some,Option.some.injEq]at h1;have h2:=(hR1.tm _ _ h1).2;generalize a1.tmps.getD cs[i] undef=q at h2;cases h2;rfl};have hcap:cs.map (fun c=>a1.tmps.getD c undef)=(List.range n).map fun i=>.pointer (some ⟨(g1.bareS ks).β (1000+i),0,none⟩):=by{apply List.ext_getElem?;intro i;by_cases hi:i<n;{obtain⟨c,k,h1,h2,h3⟩:=hcapv i hi;rw[List.getElem?_map,h1,List.getElem?_map,List.getElem?_range hi];simp only[Option.map_some,h3];rw[hix i k hi h2]};{rw[List.getElem?_eq_none (by simp;omega),List.getElem?_eq_none (by simp;omega)]}};refine wp_seq ?_;refine wp_region_list ?_;refine wpList_step fun N1 hN1=>?_;rw[if_pos (by simp[Region.wanted,hmg])];unfold Oper.wp;have hx1:(execOp a1.eval mf).run P w1=.ok (.value (.func (.func fc) #[] (cs.map (fun c=>a1.tmps.getD c undef)).toArray)) w1:=by{simp only[execOp,hmf,Instr.makeFunc,Sem.run_bind,Sem.run_pure,Result.andThen_ok];congr 3<;>(apply Array.ext';simp[Act.eval,Function.comp_def])};rw[hx1,Oper.upon_value,hmd];refine hN1 _ _ ?_;refine wpList_step fun N2 hN2=>?_;rw[if_pos (by simp[Region.wanted,hdg])];unfold Oper.wp;have hev:(a1.put (some d) (.func (.func fc) #[] (cs.map (fun c=>a1.tmps.getD c undef)).toArray)).eval (.tmp d)=.func (.func fc) #[] (cs.map (fun c=>a1.tmps.getD c undef)).toArray:=by{simp[Act.put,Act.eval,Array.getD,hda]};have hx2:(execOp (a1.put (some d) (.func (.func fc) #[] (cs.map (fun c=>a1.tmps.getD c undef)).toArray)).eval df).run P w1=.ok (.defer {target:=.fn (.func fc) (cs.map (fun c=>a1.tmps.getD c undef)).toArray,args:=#[]}) w1:=by{simp only[execOp,hdf,resolve,Sem.run_bind,hev,Deferred.ofValue,Sem.run_pure,Result.andThen_ok];simp};rw[hx2,Oper.upon_defer,hdd];refine hN2 _ _ ?_;generalize hD0:({target:=.fn (.func fc) (cs.map (fun c=>a1.tmps.getD c undef)).toArray,args:=#[]}:Deferred)=D0;show B2.wp P _ {tmps:=(a1.put (some d) (.func (.func fc) #[] (cs.map (fun c=>a1.tmps.getD c undef)).toArray)).tmps,defers:=D0::a1.defers} w1;have hne:∀k v,k≠d->(a1.put (some d) v).tmps.getD k undef=a1.tmps.getD k undef:=by{intro k v hk;simp only[Act.put];rw[Array.getD_eq_getD_getElem?,Array.getD_eq_getD_getElem?,Array.getElem?_setIfInBounds,if_neg (fun e=>hk e.symm)]};obtain⟨hwf,_⟩:=Wd.fpS he hR1.rw hnd hsh hokb;haveI hst1:Stb E ⟨qq0 (g1.bareS ks) (ovS s1.bx (fp ks s1.bx)),g1.bareS ks,w1⟩:=⟨fun _ k hk=>if_pos hk⟩;have hR2:R ⟨qq0 (g1.bareS ks) (ovS s1.bx (fp ks s1.bx)),g1.bareS ks,w1⟩ (g1.bareS ks) [D0] ⟨s1.n,zqe (L.map fun p=>(p.1,ren ks p.2)),ovS s1.bx (fp ks s1.bx),nix⟩ {tmps:=(a1.put (some d) (.func (.func fc) #[] (cs.map (fun c=>a1.tmps.getD c undef)).toArray)).tmps,defers:=D0::a1.defers} w1:=by{refine⟨by simp[Act.put,hR1.size],by rw[hR1.defers],fun k x hk=>?_,⟨hwf,Fr.refl _ _,⟨fun k b hk=>.inl ⟨k,b,hk,rfl⟩,fun r a hr=>(by cases hr),Phi.le_refl _,fun b o v h=>.inl h⟩,fun k _=>rfl⟩⟩;obtain⟨⟨p,hp,rfl⟩,h2⟩:=zzu (g:=g1.bareS ks) (a:=(a1.put (some d) (.func (.func fc) #[] (cs.map (fun c=>a1.tmps.getD c undef)).toArray)).tmps) (L:=L.map fun p=>(p.1,ren ks p.2)) (fun p hp=>by{obtain⟨q,hq,rfl⟩:=List.mem_map.1 hp;show LRp _ (ren ks q.2) _;rw[hne _ _ (hLd q hq)];refine((hR1.tm _ _ (hL q hq)).2).renS hsh fun k hk=>hky k ?_;have:∀(l:List (Nat×LV)),q∈l->k∈kyss (l.map (·.2)):=by{intro l;induction l with|nil=>{intro h;cases h}|cons y l ih=>{intro h;simp only[List.map_cons,kyss,List.mem_append];cases h with|head=>{exact .inl hk}|tail _ h=>{exact .inr (ih h)}}};exact this L hq}) hk;obtain⟨q,hq,rfl⟩:=List.mem_map.1 hp;exact⟨(hR1.tm _ _ (hL q hq)).1,h2⟩};have key:∀(mo:Option D) (u u':FrameMode) (g3:Gh) (s3:S) (a5 a4:Act) (w4:World),u≠ .run->settle u'=.returning->Md g3.Φ mo u u'->wzd E n Sc rs.toList Fk mo s3->R ⟨qq0 (g1.bareS ks) (ovS s1.bx (fp ks s1.bx)),g1.bareS ks,w1⟩ g3 [D0] s3 a5 w4-> (∀k,E.vis k=false->a4.tmps.getD k undef=a5.tmps.getD k undef)->Leaves P fn a4.tmps Post [D0] u w4:=by{intro mo u u' g3 s3 a5 a4 w4 hu hset hmd' ⟨fl,bl,hfl⟩ hR3 hvv;obtain⟨g3',s3'',hbl,hR3'',hl3⟩:=zqo hR3 hfl;obtain⟨s3',⟨hok3,hSc⟩,hR3'⟩:=zx8 hR3'' hbl;clear hR3'' hbl;replace hmd':Md g3'.Φ mo u u':=by{cases hmd' with|ret=>{exact .ret}|pan hd=>{exact .pan (hd.mono hl3.Φ)}};refine⟨hu,.func fc,(cs.map (fun c=>a1.tmps.getD c undef)).toArray,fc,(cs.map (fun c=>a1.tmps.getD c undef)).toArray,by rw[<-hD0],?_,?_⟩;{rw[<-hD0];simp only[invoke];rw[<-hcl.enters];congr 2;simp};{have hck:nodup (capK n)=true:=zzX (by unfold capK;exact List.Pairwise.map _ (fun a b h e=>h (Nat.add_left_cancel e)) (List.nodup_range (n:=n)));have hlr:LRps (g3'.bare (capK n)) (bps n) (cs.map (fun c=>a1.tmps.getD c undef)):=by{have:=yxC (g:=g3'.bare (capK n)) (n:=n);rw[hcap];have e:((List.range n).map fun i=>Value.pointer (some ⟨(g3'.bare (capK n)).β (1000+i),0,none⟩))=(List.range n).map fun i=>Value.pointer (some ⟨(g1.bareS ks).β (1000+i),0,none⟩):=by{apply List.map_congr_left;intro i hi;have hi':i<n:=by{simpa using hi};rw[Gh.bare_β (k:=1000+i) (by rw[Nat.add_sub_cancel_left];simp[capK,hi'])];rw[hR3'.rw.keys (1000+i) (by omega)]};rw[<-e];exact this};refine CallsD.mono' (hcl.calls mo _ _ hSc (g3'.bare (capK n)) _ w4 u u' hlr (hR3'.wd.fp hck hok3) hmd') ?_;rintro e u1 w5 ⟨v,bx4,g',rfl,rfl,hK4,hA⟩;obtain⟨hl5,hw5⟩:=hR3'.rw.call hA;have hR5:=hR3'.turn hl5 hw5;show Leaves P fn a4.tmps _ [] (settle u1) w5;rw[hset];obtain⟨g6,s6,es,us,hR6,hp6,hK6,hrun6⟩:=res _ _ _ _ a5 a4 w5 hvv hK4 hR5;obtain⟨c1,c2,c3,c4⟩:=wxu he hR1.rw hsh hR6.rw;exact⟨_,hrun6,hpost g6 s6.bx s6.ar w5 es us hK6 hp6 hR6.wd (fun k hk=>(hR6.rw.keys k (by omega)).trans (if_pos hk)) c1 c2 c3 c4⟩}};refine wp_mono (qxK hmix ht hzt hsp B2 _ _ _ _ w1 hR2 hB) fun e a4 w4 hq=>?_;cases e with|normal=>{obtain⟨g3,s3,hq,hR3⟩:=hq;show Leaves P fn a4.tmps _ a4.defers .returning w4;rw[hR3.defers];exact key none _ _ g3 s3 a4 a4 w4 (by simp) rfl .ret hq hR3 (fun _ _=>rfl)}|ret=>{obtain⟨g3,s3,hq,hR3⟩:=hq;show Leaves P fn a4.tmps _ a4.defers .returning w4;rw[hR3.defers];exact key none _ _ g3 s3 a4 a4 w4 (by simp) rfl .ret hq hR3 (fun _ _=>rfl)}|exit i=>{obtain⟨g3,s3,hq,hR3⟩:=hq;exact hq.elim}|panic ch=>{obtain⟨g3,dd,v,s3,a5,rfl,hq,hp,hR3,hdf4,hvv⟩:=hq;show Leaves P fn a4.tmps _ a4.defers _ w4;rw[hdf4];exact key (some dd) _ _ g3 s3 a5 a4 w4 (by simp) rfl (.pan hp) hq hR3 hvv}|_=>{exact hq.elim}}
theorem zw1 {g:Gh}{es:List D}{us:List Value}(hp:Rps g.Φ es us):LRp g (one1 es) (yq6 us):=by
 cases hp with|nil=>{exact .tup .nil}|cons h1 t1=>{cases t1 with|nil=>{exact .d h1}|cons h2 t2=>{exact .tup (.cons (.d h1) (.cons (.d h2) (LRps.ofD t2)))}}
omit [Stb E z] in
theorem wjj (hmix:P.follows .mixedOrders=true)(ht:TOK P E.tl)(hzt:ZOK E.tl)(hsp:∀f Sp,sp f=some Sp->OKX P f Sp){f fc:FuncId}{fn:Func}{c A B2:Code}{id n d m:Nat}{mf df:Oper}{cs:List Nat}{rs:Array ResultVar}{Sc:qxR}
  (hcl:OKD P fc n Sc)(hf:P.funcs[f]?=some fn)(hb:fn.body=some c)(hm:fn.ntmps=m)(hr:fn.results=rs)
  (hent:∀(args:Array Value) (w:World),(callFunc f args).run P w=.ok (.enter f args) w)
  (hs:Spine c A (.seq (.region id #[mf,df] false) B2))
  (hmf:mf.op=.makeFunc (.func fc) #[] (cs.map Operand.tmp).toArray)(hmd:mf.dst=some d)(hmg:mf.guard=none)
  (hdf:df.op=.defer {callee:=.value (.tmp d),args:=#[],argTypes:=#[]})(hdd:df.dst=none)(hdg:df.guard=none)
  (hcn:cs.length=n)(hvis:wj1 E rs.toList=true){Sp:qzP}
  (h:∀ys bx Kr Kp,Sp ys bx Kr Kp->(allD ys).isSome=true/\ys.length<=m/\cK E sp A ⟨m,lay 0 ys,nix,nix⟩ (ww4 E sp d n cs B2 Sc rs.toList (fun xs s=>outK [] none xs s Kr)) (fun _ _=>False)):OK P f Sp where
 enters:=hent
 calls aZ bx Kr Kp hS g vs w has hwd:=by
  obtain⟨had,hlen,hc⟩:=h aZ bx Kr Kp hS;obtain⟨ds0,hds0⟩:=Option.isSome_iff_exists.1 had;have has':LRps (g.bareS []) aZ vs:=by{rw[qv8 hds0]at has⊢;exact LRps.ofD (g:=g.bareS []) (has.toD:Rps g.Φ ds0 vs)};have hwd':Wd (g.bareS []) nix nix w:=⟨fun k b hk=>(by cases hk),fun r sz ty xs hr=>(by cases hr),fun r=>rfl,hwd.fx,fun k k' b b' hk hk'=>(by cases hk),fun r r' a a' hr=>(by cases hr),fun k r b a hk hr=>(by cases hk),fun k b o hk=>(by cases hk),fun r a o hr=>(by cases hr)⟩;refine zx5 hmix ht hzt hsp hcl hf hb hm hr hs hmf hmd hmg hdf hdd hdg hcn hvis (fun k hk=>if_pos hk) has' hwd' hlen (Fk:=fun xs s=>outK [] none xs s Kr) (G:=fun es _=>Kr (one1 es) nix none) (fun xs s hx=>qw7 (fun ds s' hx=>hx.2) hx) hc ?_;{intro g6 bx6 ar6 w6 es us hK hp hw6 _ h1 h2 h3 _;have hno:∀b,¬qq0 (g.bareS []) nix b:=fun b ⟨k,x,hk,_⟩=>by{cases hk};refine⟨{g6 with len:=fun _=>none},.inl ⟨_,_,nix,none,rfl,hK,zw1 (g:={g6 with len:=fun _=>none}) hp,h1,⟨h2.os,h2.tape,h2.output,h2.size,fun b hb _=>h2.block b hb (hno b)⟩,fun b o v hv=>?_,⟨fun k b hk=>(by cases hk),fun r sz ty xs hr=>(by unfold ar0 at hr;split at hr<;>cases hr),fun r=>(by simp only[ar0];split<;>rfl),hw6.fx,fun k k' b b' hk hk'=>(by cases hk),fun r r' a a' hr=>(by unfold ar0 at hr;split at hr<;>cases hr),fun k r b a hk hr=>(by cases hk),fun k b o hk=>(by cases hk),fun r a o hr=>(by unfold ar0 at hr;split at hr<;>cases hr)⟩,fun k b hk=>(by cases hk),fun a ha=>(by cases ha)⟩⟩;rcases h3 b o v hv with h|h|h;exact .inl h;exact absurd h (hno b);exact .inr (.inr h)}
omit [Stb E z] in
theorem wvs (hmix:P.follows .mixedOrders=true)(ht:TOK P E.tl)(hzt:ZOK E.tl)(hsp:∀f Sp,sp f=some Sp->OKX P f Sp){f fc:FuncId}{fn:Func}{c A B2:Code}{id n d m:Nat}{mf df:Oper}{cs:List Nat}{rs:Array ResultVar}{Sc:qxR}
  (hcl:OKD P fc n Sc)(hf:P.funcs[f]?=some fn)(hb:fn.body=some c)(hm:fn.ntmps=m)(hr:fn.results=rs)
  (hent:∀(args:Array Value) (w:World),(callFunc f args).run P w=.ok (.enter f args) w)
  (hs:Spine c A (.seq (.region id #[mf,df] false) B2))
  (hmf:mf.op=.makeFunc (.func fc) #[] (cs.map Operand.tmp).toArray)(hmd:mf.dst=some d)(hmg:mf.guard=none)
  (hdf:df.op=.defer {callee:=.value (.tmp d),args:=#[],argTypes:=#[]})(hdd:df.dst=none)(hdg:df.guard=none)
  (hcn:cs.length=n)(hvis:wj1 E rs.toList=true){Sp:qzP}
  (h:∀ys bx Kr Kp,Sp ys bx Kr Kp->NS bx->ys.length<=m/\cK E sp A ⟨m,lay 0 ys,bx,nix⟩ (ww4 E sp d n cs B2 Sc rs.toList (fun xs s=>frzR s xs fun ds s'=>∃es bf,D.les ds es/\qqW (ovS s'.bx nix) bf/\Kr (one1 es) bf none)) (fun _ _=>False)):OKS P f Sp where
 enters:=hent
 calls aZ bx Kr Kp hS g vs w hst hnm has hwd:=by
  obtain⟨hlen,hc⟩:=h aZ bx Kr Kp hS (.mk' hnm);refine zx5 hmix ht hzt hsp hcl hf hb hm hr hs hmf hmd hmg hdf hdd hdg hcn hvis hst has hwd hlen (G:=fun es b6=>∃bf,qqW (ovS b6 nix) bf/\Kr (one1 es) bf none) (fun xs s hx=>qw7 (fun ds s' ⟨es,bf,h1,h2,h3⟩=>⟨es,h1,bf,h2,h3⟩) hx) hc ?_;rintro g6 bx6 ar6 w6 es us ⟨bf,hsub,hK⟩ hp hw6 hst6 h1 h2 h3 h4;have hget:∀k b,bf k=some b->1000000<=k/\∃b₀,bx6 k=some b₀/\b=⟨dC b₀.cells,b₀.ty⟩:=fun k b hk=>by{rcases qvU (hsub k b hk)with h|⟨_,h⟩;exact h;{cases h}};refine⟨{g6 with len:=fun _=>none},.inl ⟨_,_,bf,rfl,hK,zw1 (g:={g6 with len:=fun _=>none}) hp,h1,h2,h3,⟨fun k b hk=>?_,fun r sz ty xs hr=>(by cases hr),fun r=>rfl,hw6.fx,fun k k' b b' hk hk' e=>?_,fun r r' a a' hr=>(by cases hr),fun k r b a hk hr=>(by cases hr),fun k b o hk=>?_,fun r a o hr=>(by cases hr)⟩,fun k b hk=>?_⟩⟩;{obtain⟨_,b₀,h5,rfl⟩:=hget k b hk;obtain⟨vs6,h6,h7⟩:=hw6.box k b₀ h5;exact⟨vs6,wzp (g:=g6) (g':={g6 with len:=fun _=>none}) (fun _ _ _ h=>h) h6,h7⟩};{obtain⟨_,b₀,h5,_⟩:=hget k b hk;obtain⟨_,b₁,h6,_⟩:=hget k' b' hk';exact hw6.inj k k' b₀ b₁ h5 h6 e};{obtain⟨_,b₀,h5,_⟩:=hget k b hk;exact hw6.outb k b₀ o h5};{obtain⟨h8,b₀,h5,rfl⟩:=hget k b hk;exact⟨.inl h8,(hst6 k h8).trans (hst k h8).symm,h4 k b₀ h5,zj0 _⟩}
end
end Lx
