import Derived.Test.YtkknljojdgpdaaaGreatDoorA15
set_option maxHeartbeats 32000000
set_option linter.unusedVariables false
namespace Lg
def IsMd (n:Tree):Prop:=(n.text=[]\/n.text=sInt)/\n.kids=[]\/(n.text=sOwn\/n.text=sAmp\/n.text=zxt)/\∃k,n.kids=[k]
def IsPm (p:Tree):Prop:=∃m,p.kids=[m]/\IsMd m/\m.text≠[]
def IsFn (n:Tree):Prop:=∃ps r b,n.kids=ps++[r,b]/\(∀p∈ps,IsPm p)/\IsMd r
def Fns (n:Tree):Prop:=∀k∈n.kids,k.kind=6->IsFn k
def Okf {α:Type}(r:PR α)(Q:α->Prop):Prop:=∀x ts',r=.ok (x,ts')->Q x
namespace Okf
variable {α β:Type}{Q:β->Prop}
theorem bnd {P:α->Prop}{r:PR α}{f:α->List Tok->PR β}(h:Okf r P)(k:∀a ts,P a->Okf (f a ts) Q):Okf (Lg.bnd r f) Q:=by
 intro x ts' e
 cases r with
 |error e'=>cases e
 |ok q=>exact k q.1 q.2 (h _ _ rfl) x ts' e
theorem ret {x:β}{ts:List Tok}(h:Q x):Okf (.ok (x,ts)) Q:=by
 intro y ts' e;cases e;exact h
theorem err {e:Int×Int}:Okf (.error e) Q:=by intro y ts' h;cases h
theorem ite {c:Prop}[Decidable c] {a b:PR β}(h1:c->Okf a Q)(h2:Okf b Q):Okf (if c then a else b) Q:=by
 split
 ·exact h1 (by assumption)
 ·exact h2
theorem any {r:PR β}:Okf r fun _=>True:=fun _ _ _=>trivial
end Okf
theorem qjg {s:Bs}{ts:List Tok}(h:isT s ts=true):(hd ts).text=s:=by
 simp only[isT,Bool.and_eq_true,beq_iff_eq]at h;exact h.2
theorem mode_m {ts:List Tok}:Okf (mode ts) fun x=>IsMd x/\x.text≠[]:=by
 unfold mode;refine .ite (fun h=>.ret ?_) (.ite (fun h=>.bnd .any fun k ts' _=>.ret ?_) ?_)
 · have e:=qjg h
   exact⟨.inl ⟨.inr e,rfl⟩,by show(hd ts).text≠[];rw[e];decide⟩
 · have e:=qjg h
   exact⟨.inr ⟨.inl e,k,rfl⟩,by show(hd ts).text≠[];rw[e];decide⟩
 · unfold must;by_cases h:isT sAmp ts=true
   · rw[if_pos h];have e:=qjg h
     refine .bnd .any fun _ ts1 _=>.ite (fun _=>.bnd .any fun k ts' _=>.ret ⟨.inr ⟨.inr (.inr rfl),k,rfl⟩,by show zxt≠[];decide⟩) (.bnd .any fun k ts' _=>.ret ⟨.inr ⟨.inr (.inl e),k,rfl⟩,by show(hd ts).text≠[];rw[e];decide⟩)
   ·rw[if_neg h];exact .err
theorem param_m {ts:List Tok}:Okf (param ts) IsPm:=
 .bnd .any fun n ts1 _=>.bnd .any fun _ ts2 _=>.bnd mode_m fun m ts3 hm=>.ret (by
  cases n;exact⟨m,rfl,hm.1,hm.2⟩)
theorem zkk {P:Tree->Prop}{one:List Tok->PR Tree}(ho:∀ts,Okf (one ts) P):∀(n:Nat) (ts:List Tok),ts.length<=n->Okf (qxj one ts) fun xs=>∀x∈xs,P x
 |n,ts,hn=>by
  rw[qxj];refine .ite (fun _=>?_) (.ret (by simp))
  cases e:one ts.tail with
  |error _=>exact .err
  |ok p=>
   obtain⟨x,ts'⟩:=p;have h1:=ho _ _ _ e;simp only;split
   · rename_i hl
     match n,hn with
     |0,hn=>omega
     |n+1,hn=>exact .bnd (zkk ho n ts' (by omega)) fun xs ts'' hx=>.ret (by
       intro y hy
       rcases List.mem_cons.1 hy with rfl|hy
       ·exact h1
       ·exact hx y hy)
   ·exact .err
theorem fnParams_m {ts:List Tok}:Okf (zxi ts) fun xs=>∀x∈xs,IsPm x:=
 .bnd .any fun _ ts1 _=>.ite (fun _=>.ret (by simp)) (.bnd (.bnd param_m fun x ts1 hx=>.bnd (zkk (fun _=>param_m) _ _ (Nat.le_refl _)) fun xs ts2 hxs=>.ret (by
  intro y hy
  rcases List.mem_cons.1 hy with rfl|hy
  ·exact hx
  ·exact hxs y hy)) fun xs ts2 hx=>.bnd .any fun _ ts3 _=>.ret hx)
theorem fnRet_m {ts:List Tok}:Okf (fnRet ts) IsMd:=by
 refine .ite (fun _=>.ite (fun _=>.err) fun x ts' e=>(mode_m x ts' e).1) (.ret (.inl ⟨.inl rfl,rfl⟩))
theorem fn_m {at_:Int}{ts:List Tok}:Okf (fn at_ ts) IsFn:=
 .bnd .any fun n ts1 _=>.bnd fnParams_m fun ps ts2 hp=>.bnd fnRet_m fun r ts3 hr=>.bnd .any fun b ts4 _=>.ret ⟨ps,r,b,rfl,hp,hr⟩
theorem zj4 {s:Bs}{p:Int}{ks:List Tree}{ts:List Tok}:Okf (qxw (.node 1 s 0 p ks) ts) fun x=>x.kind=1:=by
 refine .ite (fun _=>.bnd .any fun _ ts1 _=>.bnd .any fun _ ts2 _=>.ret rfl) (.bnd .any fun _ ts2 _=>.ret rfl)
theorem item_m {ts:List Tok}:Okf (item ts) fun x=>x.kind=6->IsFn x:=by
 refine .ite (fun _=>fun x ts' e h=>fn_m x ts' e) (.bnd .any fun _ ts1 _=>fun x ts' e h=>absurd h ?_)
 have:Okf (typ (hd ts).pos ts1) fun x=>x.kind=1:=
  .bnd .any fun n ts2 _=>.bnd .any fun s ts3 _=>.ite (fun _=>.bnd .any fun _ ts4 _=>.bnd .any fun _ ts5 _=>zj4) zj4
 rw[this x ts' e];decide
theorem items_m:∀(n:Nat) (ts:List Tok),ts.length<=n->Okf (zx6 ts) fun xs=>∀x∈xs,x.kind=6->IsFn x
 |n,ts,hn=>by
  rw[zx6];refine .ite (fun _=>.ret (by simp)) ?_
  cases e:item ts with
  |error _=>exact .err
  |ok p=>
   obtain⟨x,ts'⟩:=p;have h1:=item_m _ _ e;simp only;split
   · rename_i hl
     match n,hn with
     |0,hn=>omega
     |n+1,hn=>exact .bnd (items_m n ts' (by omega)) fun xs ts'' hx=>.ret (by
       intro y hy
       rcases List.mem_cons.1 hy with rfl|hy
       ·exact h1
       ·exact hx y hy)
   ·exact .err
theorem parse_fns {l:Bs}{t:Tree}(h:zjy l=.ok t):Fns t:=by
 unfold zjy at h;split at h
 ·cases h
 · rename_i ts e;unfold qv2 at h;split at h
   ·cases h
   · rename_i ks ts' e2;have h1:=items_m _ ts (Nat.le_refl _) _ _ e2;split at h
     ·cases h
     ·simp only[Except.ok.injEq]at h;subst h;exact h1
def modes:List Bs:=[[],sInt,sOwn,sAmp,zxt]
def qkr (s:Bs):Int:=idxF (fun x=>x==s) modes 0
def modeR (t:List Ty)(n:Tree):HR Par:=
 if n.kids.isEmpty then .ok ⟨[],qkr n.text,0⟩
 else if qkv t (kid0 n).text<0 then .error 31 else .ok ⟨[],qkr n.text,qkv t (kid0 n).text⟩
def sharedR (t:List Ty)(p:Par):Bool:=decide (1<p.mode)&& !((tyAt t p.typ).sort==0)
def sameN (p x:Par):Bool:=x.name==p.name
def sameT (p x:Par):Bool:=decide (1<x.mode)&&x.typ==p.typ
def hasP (f:Par->Bool)(ps:List Par):Bool:=decide (0<=idxF f ps 0)
def noPar:Par:=⟨[],0,0⟩
def parOf (t:List Ty)(n:Tree):Par:=match modeR t n with
 |.ok p=>p
 |.error _=>noPar
def qk3 (t:List Ty)(k:Tree)(ps:List Par):SR (List Par):=
 if hasP (sameN ⟨k.text,0,0⟩) ps then .error (k.pos,30)
 else match modeR t (kid0 k)with
 |.error e=>.error ((kid0 k).pos,e)
 |.ok p=>if sharedR t p&&hasP (sameT p) ps then .error ((kid0 k).pos,34)else .ok (ps++[⟨k.text,p.mode,p.typ⟩])
def qji (t:List Ty):List Tree->List Par->SR (List Par)
 |[],ps=>.ok ps
 |k::ks,ps=>sbnd (qk3 t k ps) fun ps=>qji t ks ps
def sigR (t:List Ty)(n:Tree):SR Sg:=
 if 8<n.kids.length-2 then .error (n.pos,22)
 else sbnd (qji t (n.kids.take (n.kids.length-2)) []) fun ps=>
  match modeR t (n.kids[n.kids.length-2]?.getD (.node 0 [] 0 0 []))with
  |.error e=>.error ((n.kids[n.kids.length-2]?.getD (.node 0 [] 0 0 [])).pos,e)
  |.ok r=>.ok ⟨n.text,ps,r⟩
def zvc (t:List Ty):List Tree->List Sg->SR (List Sg)
 |[],acc=>.ok acc
 |k::ks,acc=>if k.kind=6 then sbnd (sigR t k) fun s=>zvc t ks (acc++[s])else zvc t ks acc
def PmOk (n:Nat)(p:Par):Prop:=1<=p.mode/\p.mode<=4/\(p.mode≠1->0<=p.typ/\p.typ<n)
theorem modeIx_of {s:Bs}:(s=[]->qkr s=0)/\(s=sInt->qkr s=1)/\(s=sOwn->qkr s=2)/\(s=sAmp->qkr s=3)/\(s=zxt->qkr s=4):=
 ⟨fun e=>by rw[e];rfl,fun e=>by rw[e];rfl,fun e=>by rw[e];rfl,fun e=>by rw[e];rfl,fun e=>by rw[e];rfl⟩
theorem finds_range (t:List Ty)(s:Bs):qkv t s= -1\/0<=qkv t s/\qkv t s<t.length:=by
 rcases qjx (fun x:Ty=>x.name==s) t 0 with h|⟨h1,h2⟩
 ·exact .inl h
 ·exact .inr ⟨h1,by show idxF _ t 0<_;simpa using h2⟩
theorem modeR_ok {t:List Ty}{n:Tree}{p:Par}(hm:IsMd n)(h:modeR t n=.ok p):p.mode=qkr n.text/\(n.text=[]->p.mode=0)/\(n.text≠[]->PmOk t.length p)/\p.name=[]:=by
 have hx:=modeIx_of (s:=n.text);unfold modeR at h
 rcases hm with⟨h1,h2⟩|⟨h1,k,h2⟩
 · rw[h2]at h;cases h
   refine⟨rfl,fun e=>hx.1 e,fun e=>?_,rfl⟩
   rcases h1 with h1|h1
   ·exact absurd h1 e
   · have:=hx.2.1 h1
     exact⟨by show 1<=qkr n.text;omega,by show qkr n.text<=4;omega,fun e=>absurd this e⟩
 · rw[h2]at h;rw[if_neg (by simp)]at h;split at h
   ·cases h
   · cases h;have hr:=finds_range t (kid0 n).text
     have hm:2<=qkr n.text/\qkr n.text<=4:=by
      rcases h1 with h1|h1|h1
      ·have:=hx.2.2.1 h1;omega
      ·have:=hx.2.2.2.1 h1;omega
      ·have:=hx.2.2.2.2 h1;omega
     refine⟨rfl,fun e=>hx.1 e,fun _=>⟨by show 1<=qkr n.text;omega,hm.2,fun _=>?_⟩,rfl⟩
     show 0<=qkv t (kid0 n).text/\qkv t (kid0 n).text<t.length
     omega
theorem sigParam_ok {t:List Ty}{k:Tree}{ps qs:List Par}(hk:IsPm k)(hp:∀p∈ps,PmOk t.length p)(h:qk3 t k ps=.ok qs):(∀p∈qs,PmOk t.length p)/\qs.length=ps.length+1:=by
 obtain⟨m,h1,h2,h3⟩:=hk;unfold qk3 at h
 have e0:kid0 k=m:=by unfold kid0;rw[h1];rfl
 split at h
 ·cases h
 · split at h
   ·cases h
   · rename_i p e;rw[e0]at e;have hm:=(modeR_ok h2 e).2.2.1 h3;split at h
     ·cases h
     · cases h
       refine⟨fun q hq=>?_,by simp⟩
       rcases List.mem_append.1 hq with hq|hq
       ·exact hp q hq
       ·rw[List.mem_singleton.1 hq];exact hm
theorem zqy {t:List Ty}:∀{ks:List Tree} {ps qs:List Par},(∀k∈ks,IsPm k)->(∀p∈ps,PmOk t.length p)->qji t ks ps=.ok qs->(∀p∈qs,PmOk t.length p)/\qs.length=ps.length+ks.length
 |[],ps,qs,_,hp,h=>by cases h;exact⟨hp,rfl⟩
 |k::ks,ps,qs,hk,hp,h=>by
  unfold qji at h
  cases e:qk3 t k ps with
  |error x=>rw[e]at h;cases h
  |ok rs=>
   rw[e]at h;obtain⟨h1,h2⟩:=sigParam_ok (hk k (List.mem_cons_self ..)) hp e;obtain⟨h3,h4⟩:=zqy (fun k hk'=>hk k (List.mem_cons_of_mem _ hk')) h1 h
   exact⟨h3,by rw[h4,h2,lB];omega⟩
theorem sigR_ok {t:List Ty}{n:Tree}{g:Sg}(hn:IsFn n)(h:sigR t n=.ok g):(∀p∈g.params,PmOk t.length p)/\g.params.length<=8:=by
 obtain⟨ps,r,b,h1,h2,h3⟩:=hn;unfold sigR at h
 have hl:n.kids.length-2=ps.length:=by rw[h1];simp
 split at h
 ·cases h
 · rename_i h8
   cases e:qji t (n.kids.take (n.kids.length-2)) []with
   |error x=>rw[e]at h;cases h
   |ok qs=>
    rw[e]at h
    have ht:n.kids.take (n.kids.length-2)=ps:=by rw[hl,h1];simp
    rw[ht]at e;obtain⟨h4,h5⟩:=zqy h2 (by simp) e;simp only[sbnd]at h;split at h
    ·cases h
    · cases h
      exact⟨h4,by show qs.length<=8;rw[h5];simp;omega⟩
theorem zvb {t:List Ty}:∀{ks:List Tree} {acc gs:List Sg},(∀k∈ks,k.kind=6->IsFn k)->(∀g∈acc,(∀p∈g.params,PmOk t.length p)/\g.params.length<=8)->zvc t ks acc=.ok gs->(∀g∈gs,(∀p∈g.params,PmOk t.length p)/\g.params.length<=8)/\gs.length=acc.length+(ks.filter fun k=>k.kind==6).length
 |[],acc,gs,_,ha,h=>by cases h;exact⟨ha,rfl⟩
 |k::ks,acc,gs,hk,ha,h=>by
  unfold zvc at h;by_cases h6:k.kind=6
  · rw[if_pos h6]at h
    cases e:sigR t k with
    |error x=>rw[e]at h;cases h
    |ok s=>
     rw[e]at h;have h1:=sigR_ok (hk k (List.mem_cons_self ..) h6) e
     obtain⟨h2,h3⟩:=zvb (fun k hk'=>hk k (List.mem_cons_of_mem _ hk')) (fun g hg=>by
      rcases List.mem_append.1 hg with hg|hg
      ·exact ha g hg
      ·rw[List.mem_singleton.1 hg];exact h1) h
     refine⟨h2,?_⟩;rw[h3,List.filter_cons,if_pos (by simpa using h6),lC];simp;omega
  · rw[if_neg h6]at h;obtain⟨h2,h3⟩:=zvb (fun k hk'=>hk k (List.mem_cons_of_mem _ hk')) ha h
    exact⟨h2,by rw[h3,List.filter_cons,if_neg (by simpa using h6)]⟩
theorem modeR_ne {t:List Ty}{n:Tree}{e:Int}(h:modeR t n=.error e):e=31:=by
 unfold modeR at h;split at h
 ·cases h
 · split at h
   ·cases h;rfl
   ·cases h
theorem sigParam_ne {t:List Ty}{k:Tree}{ps:List Par}{a c:Int}(h:qk3 t k ps=.error (a,c)):c≠0:=by
 unfold qk3 at h;split at h
 ·cases h;decide
 · split at h
   ·rename_i e he;cases h;rw[modeR_ne he];decide
   · split at h
     ·cases h;decide
     ·cases h
theorem zqz {t:List Ty}{a c:Int}:∀{ks:List Tree} {ps:List Par},qji t ks ps=.error (a,c)->c≠0
 |[],ps,h=>by cases h
 |k::ks,ps,h=>by
  unfold qji at h
  cases e:qk3 t k ps with
  |error x=>obtain⟨a',c'⟩:=x;rw[e]at h;cases h;exact sigParam_ne e
  |ok rs=>rw[e]at h;exact zqz h
theorem sigR_ne {t:List Ty}{n:Tree}{a c:Int}(h:sigR t n=.error (a,c)):c≠0:=by
 unfold sigR at h;split at h
 ·cases h;decide
 · cases e:qji t (n.kids.take (n.kids.length-2)) []with
   |error x=>obtain⟨a',c'⟩:=x;rw[e]at h;cases h;exact zqz e
   |ok qs=>
    rw[e]at h;simp only[sbnd]at h;split at h
    ·rename_i x hx;cases h;rw[modeR_ne hx];decide
    ·cases h
end Lg
set_option linter.unusedSimpArgs false
set_option maxRecDepth 20000
namespace Lx
open Go
open Lg (Tok Tree Ty)
open Go.Proofs (Tryz.prog)
open Go.Proofs.Tryz
abbrev EVw:Env:=mkE true (fun _=>false) (fun _=>true)
theorem qks {sz:Nat}{xs ys:List D}{f:Bool}(h:xs=ys):D.le (.sl sz xs f) (.sl sz ys false):=h▸ .sl (D.les.refl _) (fun e=>by cases e)
theorem le_nils {sz:Nat}{f:Bool}:D.le (.imm (.slice none 0 0)) (.sl sz [] f):=.nil _ _
theorem treeDs_at' {xs:List Tree}{i:Nat}(h:i<xs.length):(qze xs)[i]?=some (qzr xs[i]):=by
 induction xs generalizing i with
 |nil=>simp at h
 |cons x xs ih=>
  cases i with
  |zero=>rfl
  |succ i=>exact ih (by simpa using h)
theorem qzy (v:Tree):D.ag [.int .i64 v.kind,.st v.text,.int .i64 v.num,.int .i64 v.pos,.sl 5 (qze v.kids) false]=qzr v:=by
 cases v;simp only[qzr,Tree.kind,Tree.text,Tree.num,Tree.pos,Tree.kids]
def leqD (x:Int×Int×Int):D:=.ag [.int .i64 x.1,.int .i64 x.2.1,.int .i64 x.2.2]
def factsS:Spec:=fun ys bx Kr Kp=>∃op a b k l,ys=[.d (.st op),.d (.int .i64 a),.d (.int .i64 b),.d (.int .i64 k),.d (.int .i64 l)]/\
 Kr (.d (.sl 3 ((Lg.cmpF IntKind.i64.wrap op a b k l).map leqD) false)) nix none
theorem facts_OK:OK Tryz.prog 135 factsS:=by
 refine fn_OK' qzu (E:=EVw) (sp:=spL []) qzt qzl (OKs.ok trivial) func135 rfl ntmps135 results135 call135 [] none ?_;rintro ys bx Kr Kp ⟨op,a,b,k,l,rfl,hK⟩
 refine⟨[],rfl,trivial,by simp,?_⟩
 simp only[go_sem]
 refine⟨fun h=>?_,fun h1=>⟨fun h=>?_,fun h2=>⟨fun h=>?_,fun h3=>?_⟩⟩⟩
 ·have e:=eq_of_beq h;refine⟨_,qzb (qks (ys:=(Lg.cmpF IntKind.i64.wrap op a b k l).map leqD) ?_),hK⟩;rw[e,Lg.cmpF,if_pos (show([60]:Bs)=Lg.sLt from rfl)];rfl
 ·have e:=eq_of_beq h;refine⟨_,qzb (qks (ys:=(Lg.cmpF IntKind.i64.wrap op a b k l).map leqD) ?_),hK⟩;rw[e,Lg.cmpF,if_neg (show¬([60,61]:Bs)=Lg.sLt by decide),if_pos (show([60,61]:Bs)=Lg.sLe from rfl)];rfl
 ·have e:=eq_of_beq h;refine⟨_,qzb (qks (ys:=(Lg.cmpF IntKind.i64.wrap op a b k l).map leqD) ?_),hK⟩;rw[e,Lg.cmpF,if_neg (show¬([61,61]:Bs)=Lg.sLt by decide),if_neg (show¬([61,61]:Bs)=Lg.sLe by decide),if_pos (show([61,61]:Bs)=Lg.sEq2 from rfl)];rfl
 · have e:Lg.cmpF IntKind.i64.wrap op a b k l=[]:=by
    rw[Lg.cmpF,if_neg (fun e=>by rw[e]at h1;exact absurd h1 (by decide)),if_neg (fun e=>by rw[e]at h2;exact absurd h2 (by decide)),if_neg (fun e=>by rw[e]at h3;exact absurd h3 (by decide))]
   rw[e]at hK;exact⟨_,qzb le_nils,hK⟩
def nbx (s:Bs):Box:=⟨[.d (.st s)],9⟩
@[go_sem ↓]theorem nbx_ok (s:Bs):(allD (nbx s).cells).isSome=true:=(rfl)
@[go_sem ↓]theorem nbx_fz (r n:Nat)(x:D)(s:Bs):Box.fz r n x (nbx s)=nbx s:=(rfl)
@[go_sem ↓]theorem nbx_fgt (k:Nat)(s:Bs):Box.fgt k (nbx s)=nbx s:=(rfl)
def pickS (p:Bs->Tree->Bool):Spec:=fun ys bx Kr Kp=>∃s t,ys=[.d (qzr t),.bp 1000 0]/\bx 1000=some (nbx s)/\Kr (.d (.bool (p s t))) (put 1000 (nbx s) nix) none
theorem named1_OK:OK Tryz.prog 131 (pickS fun s n=>n.text==s):=by
 refine fn_OK' qzu (E:=EV) (sp:=spL []) qzt qzl (OKs.ok trivial) func131 rfl ntmps131 results131 call131 [1000] none ?_;rintro ys bx Kr Kp ⟨s,t,rfl,hb,hK⟩
 refine⟨[(1000,nbx s)],rfl,⟨by decide,hb,trivial⟩,by simp,?_⟩
 simp only[nbx,go_sem];exact⟨_,qzb (.rfl _),hK⟩
theorem number1_OK:OK Tryz.prog 133 (pickS fun s n=>n.text==s&&n.kids.isEmpty):=by
 refine fn_OK' qzu (E:=EV) (sp:=spL []) qzt qzl (OKs.ok trivial) func133 rfl ntmps133 results133 call133 [1000] none ?_;rintro ys bx Kr Kp ⟨s,t,rfl,hb,hK⟩
 refine⟨[(1000,nbx s)],rfl,⟨by decide,hb,trivial⟩,by simp,?_⟩
 simp only[nbx,go_sem]
 have e0:((t.kids.length:Int)==0)=t.kids.isEmpty:=by cases t.kids<;>simp;omega
 rw[e0]
 refine⟨fun h=>⟨_,qzb (.rfl _),?_⟩,fun h=>⟨_,qzb (.rfl _),?_⟩⟩
 ·simp only[h,Bool.true_and]at hK;exact hK
 ·simp only[h,Bool.false_and]at hK;exact hK
def ixnS (f:Nat)(p:Bs->Tree->Bool):Spec:=fun ys bx Kr Kp=>∃s l fl,ys=[.d (.sl 5 (qze l) fl),.fn (.func f) [] [.bp 1000 0]]/\bx 1000=some (nbx s)/\l.length<=4096/\
 Kr (.d (.int .i64 (Lg.idxF (p s) l 0))) (put 1000 (nbx s) nix) none
theorem indexN_OK (f:Nat)(p:Bs->Tree->Bool)(hf:OK Tryz.prog f (pickS p)):OK Tryz.prog 132 (ixnS f p):=by
 refine fn_OK' qzu (E:=EV) (sp:=spL [(f,(pickS p))]) qzt qzl (OKs.ok ⟨hf,trivial⟩) func132 rfl ntmps132 results132 call132 [1000] none ?_;rintro ys bx Kr Kp ⟨s,l,fl,rfl,hb,hl,hK⟩
 refine⟨[(1000,nbx s)],rfl,⟨by decide,hb,trivial⟩,by simp,?_⟩
 simp only[go_sem]
 refine qzj (T:={i:Nat //i<=l.length/\Lg.idxF (p s) l 0=Lg.idxF (p s) (l.drop i) i}) (fun i=>⟨19,put 0 (.d (.sl 5 (qze l) fl)) (put 1 (.fn (.func f) [] [.bp 1000 0]) (put 7 (.d (.int .i64 l.length)) (put 8 (.d (.int .i64 i.1)) nix))),put 1000 (nbx s) nix,nix⟩) (fun i=>l.length-i.1) ⟨0,by omega,rfl⟩
  ⟨rfl,sP4 qza,sP1 qza,qza⟩ ?_
 rintro⟨i,hi,hx⟩;simp only[go_sem]
 refine⟨fun h=>?_,fun h=>?_⟩
 · have hlt:i<l.length:=by have:=lF h;omega
   rw[List.drop_eq_getElem_cons hlt,Lg.idxF]at hx
   refine⟨by omega,by omega,?_⟩
   rw[lA,treeDs_at' hlt];simp only[qzy,go_sem];refine⟨s,l[i],rfl,rfl,?_⟩;simp only[go_sem]
   refine⟨fun h=>?_,fun h=>?_⟩
   ·rw[if_pos h]at hx;rw[hx]at hK;exact⟨_,qzb (.rfl _),hK⟩
   · rw[if_neg (by rw[h];decide)]at hx
     exact⟨⟨by omega,by omega⟩,⟨i+1,hlt,hx⟩,⟨rfl,sP4 qza,sP1 qza,qza⟩,by show l.length-(i+1)<l.length-i;omega⟩
 · have:i=l.length:=by have:=lG h;omega
   subst this;rw[List.drop_length,Lg.idxF]at hx;rw[hx]at hK;exact⟨_,qzb (.rfl _),hK⟩
def containsS (f:Nat)(p:Bs->Tree->Bool):Spec:=fun ys bx Kr Kp=>∃s l fl,ys=[.d (.sl 5 (qze l) fl),.fn (.func f) [] [.bp 1000 0]]/\bx 1000=some (nbx s)/\l.length<=4096/\
 Kr (.d (.bool (decide (0<=Lg.idxF (p s) l 0)))) (put 1000 (nbx s) nix) none
theorem contains_OK (f:Nat)(p:Bs->Tree->Bool)(hf:OK Tryz.prog f (pickS p)):OK Tryz.prog 130 (containsS f p):=by
 refine fn_OK' qzu (E:=EV) (sp:=spL [(132,(ixnS f p))]) qzt qzl (OKs.ok ⟨(indexN_OK f p hf),trivial⟩) func130 rfl ntmps130 results130 call130 [1000] none ?_;rintro ys bx Kr Kp ⟨s,l,fl,rfl,hb,hl,hK⟩
 refine⟨[(1000,nbx s)],rfl,⟨by decide,hb,trivial⟩,by simp,?_⟩
 simp only[go_sem];refine⟨s,l,fl,rfl,rfl,hl,?_⟩;simp only[go_sem];exact⟨_,qzb (.rfl _),hK⟩
def nmdS:Spec:=fun ys bx Kr Kp=>∃s l fl,ys=[.d (.sl 5 (qze l) fl),.d (.st s)]/\l.length<=4096/\Kr (.d (.bool (Lg.namedT l s))) nix none
theorem nmd_OK:OK Tryz.prog 93 nmdS:=by
 refine fn_OK' qzu (E:=EV) (sp:=spL [(130,(containsS 131 fun s n=>n.text==s))]) qzt qzl (OKs.ok ⟨(contains_OK 131 _ named1_OK),trivial⟩) func93 rfl ntmps93 results93 call93 [] none ?_;rintro ys bx Kr Kp ⟨s,l,fl,rfl,hl,hK⟩
 refine⟨[],rfl,trivial,by simp,?_⟩
 simp only[go_sem];refine⟨s,l,fl,rfl,rfl,hl,?_⟩;simp only[go_sem];refine⟨_,qzb (.rfl _),?_⟩;rw[Lg.idxF_any];exact hK
def nmbS:Spec:=fun ys bx Kr Kp=>∃x s l fl,ys=[.d x,.d (.st s),.d (.sl 5 (qze l) fl)]/\(∃a b c f g,x=.ag [.st a,.int .i64 b,.int .i64 c,f,g]/\one (.d f)=true/\one (.d g)=true)/\l.length<=4096/\
 Kr (.d (.int .i64 (Lg.numb s l))) nix none
theorem nmb_OK:OK Tryz.prog 94 nmbS:=by
 refine fn_OK' qzu (E:=EV) (sp:=spL [(132,(ixnS 133 fun s n=>n.text==s&&n.kids.isEmpty))]) qzt qzl (OKs.ok ⟨(indexN_OK 133 _ number1_OK),trivial⟩) func94 rfl ntmps94 results94 call94 [] none ?_;rintro ys bx Kr Kp ⟨x,s,l,fl,rfl,⟨a,b,c,f,g,rfl,hf,hg⟩,hl,hK⟩
 refine⟨[],rfl,trivial,by simp,?_⟩
 simp only[hf,hg,go_sem];refine⟨s,l,fl,rfl,rfl,hl,?_⟩;simp only[go_sem];exact⟨_,qzb (.rfl _),hK⟩
def owLV (r sz:Nat):List D->LV
 |[]=>.d (.imm (.slice none 0 0))
 |x::xs=>.os r sz (xs.length+1)
def owAr (r sz ty:Nat)(xs:List D)(a:Ar):Ar:=match xs with
 |[]=>a
 |x::xs=>put r (sz,ty,x::xs) a
@[go_sem]theorem owLV_nil (r sz:Nat):owLV r sz []=.d (.imm (.slice none 0 0)):=(rfl)
@[go_sem]theorem owLV_cons (r sz:Nat)(x:D)(xs:List D):owLV r sz (x::xs)=.os r sz (xs.length+1):=(rfl)
@[go_sem]theorem owAr_nil (r sz ty:Nat)(a:Ar):owAr r sz ty [] a=a:=(rfl)
@[go_sem]theorem owAr_cons (r sz ty:Nat)(x:D)(xs:List D)(a:Ar):owAr r sz ty (x::xs) a=put r (sz,ty,x::xs) a:=(rfl)
theorem qzh {n:Nat}{tm tm':Nat->Option LV}{bx bx':Bx}{ar ar':Ar}(h1:subm tm tm')(h2:subm bx bx')(h3:subm ar ar'):Sub ⟨n,tm,bx,ar⟩ ⟨n,tm',bx',ar'⟩:=⟨rfl,h1,h2,h3⟩
theorem qqf {f g:Ar}{r sz ty:Nat}{xs:List D}(h:xs≠[]->f r=some (sz,ty,xs))(hg:subm f g):subm f (owAr r sz ty xs g):=by
 cases xs with
 |nil=>exact hg
 |cons x xs=>exact qzd (h (by simp)) hg
theorem zz5 {p:Tree->Bool}{ks:List Tree}{i:Nat}(h:i<ks.length):(ks.take (i+1)).filter p=(ks.take i).filter p++(if p ks[i]then [ks[i]]else []):=by
 rw[List.take_add_one,lD h,List.filter_append];simp only[Option.toList_some,List.filter_cons,List.filter_nil]
def partsS:Spec:=fun ys bx Kr Kp=>∃n,ys=[.d (qzr n)]/\n.kids.length<=4096/\
 Kr (.tup [.d (.sl 5 (qze (n.kids.filter Lg.zza)) false),.d (.sl 5 (qze (n.kids.filter Lg.isFct)) false)]) nix none
abbrev EPa:Env:=mkE false (fun j=>j==20||j==26) (fun _=>true)
theorem parts_OK:OK Tryz.prog 90 partsS:=by
 refine fn_OK' qzu (E:=EPa) (sp:=spL []) qzt qzl (OKs.ok trivial) func90 rfl ntmps90 results90 call90 [] none ?_;rintro ys bx Kr Kp ⟨n,rfl,hl,hK⟩
 refine⟨[],rfl,trivial,by simp,?_⟩
 simp only[go_sem]
 refine qzj (T:={t:List Tree×List Tree×Nat //t.1=(n.kids.take t.2.2).filter Lg.zza/\t.2.1=(n.kids.take t.2.2).filter Lg.isFct/\t.2.2<=n.kids.length})
  (fun t=>⟨30,put 2 (owLV 20 5 (qze t.1.1)) (put 3 (owLV 26 5 (qze t.1.2.1)) (put 7 (.d (.sl 5 (qze n.kids) false)) (put 8 (.d (.int .i64 n.kids.length)) (put 9 (.d (.int .i64 t.1.2.2)) nix)))),nix,owAr 20 5 92 (qze t.1.1) (owAr 26 5 92 (qze t.1.2.1) nix)⟩) (fun t=>n.kids.length-t.1.2.2) ⟨([],[],0),rfl,rfl,by simp⟩
  ⟨rfl,sP5 qza,qza,qza⟩ ?_
 rintro⟨⟨xs,ys,i⟩,g1,g2,g3⟩;have ha:xs=(n.kids.take i).filter Lg.zza:=g1;have hb:ys=(n.kids.take i).filter Lg.isFct:=g2;have hi:i<=n.kids.length:=g3
 have hla:xs.length<=i:=by rw[ha];exact Nat.le_trans (List.length_filter_le ..) (by rw[List.length_take];omega)
 have hlb:ys.length<=i:=by rw[hb];exact Nat.le_trans (List.length_filter_le ..) (by rw[List.length_take];omega)
 rcases xs with _|⟨z1,xs⟩<;>rcases ys with _|⟨z2,ys⟩
 all_goals
  simp only[qze,go_sem]
  refine⟨fun h=>?_,fun h=>?_⟩
  · have hlt:i<n.kids.length:=by have:=lF h;omega
    have e1:=zz5 (p:=Lg.zza) hlt;have e2:=zz5 (p:=Lg.isFct) hlt;rw[<-ha]at e1;rw[<-hb]at e2;simp only[lB,lH]at hla hlb
    refine⟨by omega,by omega,?_⟩
    rw[lA,treeDs_at' hlt];simp only[qzy,qze,go_sem]
    refine⟨fun h1=>?_,fun h1=>⟨fun h2=>?_,fun h2=>?_⟩⟩
    · have h3:Lg.isFct n.kids[i]=false:=by
       have:=eq_of_beq h1;unfold Lg.isFct;rw[this];rfl
      rw[if_pos (show Lg.zza n.kids[i]=true from h1)]at e1;rw[h3,if_neg (by decide),List.append_nil]at e2
      repeat' apply And.intro
      all_goals first
       |omega
       |exact⟨⟨(_,_,i+1),e1.symm,e2.symm,hlt⟩,qzh (qzd (by simp[put,qzp,qze,owLV,qzn]) (qzd (by simp[put,qzp,qze,owLV,qzn]) (sP3 qza))) qza (qqf (fun hne=>by first|(simp[put,qzp,qze];done)|exact absurd rfl hne) (qqf (fun hne=>by first|(simp[put,qzp,qze];done)|exact absurd rfl hne) qza)),by show n.kids.length-(i+1)<n.kids.length-i;omega⟩
    · rw[if_neg (show¬Lg.zza n.kids[i]=true by unfold Lg.zza;rw[h1];decide),List.append_nil]at e1;rw[if_pos (show Lg.isFct n.kids[i]=true from h2)]at e2
      repeat' apply And.intro
      all_goals first
       |omega
       |exact⟨⟨(_,_,i+1),e1.symm,e2.symm,hlt⟩,qzh (qzd (by simp[put,qzp,qze,owLV,qzn]) (qzd (by simp[put,qzp,qze,owLV,qzn]) (sP3 qza))) qza (qqf (fun hne=>by first|(simp[put,qzp,qze];done)|exact absurd rfl hne) (qqf (fun hne=>by first|(simp[put,qzp,qze];done)|exact absurd rfl hne) qza)),by show n.kids.length-(i+1)<n.kids.length-i;omega⟩
    · rw[if_neg (show¬Lg.zza n.kids[i]=true by unfold Lg.zza;rw[h1];decide),List.append_nil]at e1;rw[if_neg (show¬Lg.isFct n.kids[i]=true by unfold Lg.isFct;rw[h2];decide),List.append_nil]at e2
      repeat' apply And.intro
      all_goals first
       |omega
       |exact⟨⟨(_,_,i+1),e1.symm,e2.symm,hlt⟩,qzh (qzd (by simp[put,qzp,qze,owLV,qzn]) (qzd (by simp[put,qzp,qze,owLV,qzn]) (sP3 qza))) qza (qqf (fun hne=>by first|(simp[put,qzp,qze];done)|exact absurd rfl hne) (qqf (fun hne=>by first|(simp[put,qzp,qze];done)|exact absurd rfl hne) qza)),by show n.kids.length-(i+1)<n.kids.length-i;omega⟩
  · have h0:i=n.kids.length:=by have:=lG h;omega
    subst h0;rw[List.take_length]at ha hb;rw[<-ha,<-hb]at hK
    first
     |exact⟨_,.cons (.nil 5 false) (.cons (.nil 5 false) .nil),hK⟩
     |exact⟨_,.cons (.nil 5 false) (.cons (qks (by simp[qze])) .nil),hK⟩
     |exact⟨_,.cons (qks (by simp[qze])) (.cons (.nil 5 false) .nil),hK⟩
     |exact⟨_,.cons (qks (by simp[qze])) (.cons (qks (by simp[qze])) .nil),hK⟩
def zko (p c:Int):D:=.ifc 158 (.ag [.int .i64 p,.int .i64 c])
def mustT:Spec:=fun ys bx Kr Kp=>∃ok n e,ys=[.d (.bool ok),.d (qzr n),.d (.int .i64 e)]/\(ok=true->Kr (.tup []) nix none)/\(ok=false->Kp (zko n.pos e) nix)
theorem mustT_OK:OK Tryz.prog 91 mustT:=by
 refine fn_OK' qzu (E:=EV) (sp:=spL []) qzt qzl (OKs.ok trivial) func91 rfl ntmps91 results91 call91 [] none ?_;rintro ys bx Kr Kp ⟨ok,n,e,rfl,h1,h2⟩
 refine⟨[],rfl,trivial,by simp,?_⟩
 simp only[go_sem]
 refine⟨fun h=>⟨_,.nil,h1 (by simpa using h)⟩,fun h=>h2 (by simpa using h)⟩
def idxB:Spec:=fun ys bx Kr Kp=>∃l s fl,ys=[.d (.sl 1 (l.map .st) fl),.d (.st s)]/\l.length<=4096/\Kr (.d (.int .i64 (Lg.idxF (fun x=>x==s) l 0))) nix none
theorem idxB_OK:OK Tryz.prog 134 idxB:=by
 refine fn_OK' qzu (E:=EV) (sp:=spL []) qzt qzl (OKs.ok trivial) func134 rfl ntmps134 results134 call134 [] none ?_;rintro ys bx Kr Kp ⟨l,s,fl,rfl,hl,hK⟩
 refine⟨[],rfl,trivial,by simp,?_⟩
 simp only[lE,go_sem]
 refine qzj (T:={i:Nat //i<=l.length/\Lg.idxF (fun x=>x==s) l 0=Lg.idxF (fun x=>x==s) (l.drop i) i}) (fun i=>⟨19,put 0 (.d (.sl 1 (l.map .st) fl)) (put 1 (.d (.st s)) (put 7 (.d (.int .i64 l.length)) (put 8 (.d (.int .i64 i.1)) nix))),nix,nix⟩) (fun i=>l.length-i.1) ⟨0,by omega,rfl⟩
  (qzh (sP4 qza) qza qza) ?_
 rintro⟨i,hi,hx⟩;simp only[lE,go_sem]
 refine⟨fun h=>?_,fun h=>?_⟩
 · have hlt:i<l.length:=by have:=lF h;omega
   rw[List.drop_eq_getElem_cons hlt,Lg.idxF]at hx
   refine⟨by omega,by omega,?_⟩
   have e:(l.map D.st)[i]?=some (.st l[i]):=by rw[List.getElem?_map,lD hlt];rfl
   rw[lA,e];simp only[go_sem]
   refine⟨fun h=>?_,fun h=>?_⟩
   ·have h':=eq_of_beq h;rw[if_pos (by simp[h'])]at hx;rw[hx]at hK;exact⟨_,qzb (.rfl _),hK⟩
   · have h':(l[i]==s)=false:=by
      cases e:l[i]==s with
      |false=>rfl
      |true=>rw[eq_of_beq e]at h;simp at h
     rw[if_neg (by rw[h'];decide)]at hx
     exact⟨⟨by omega,by omega⟩,⟨i+1,hlt,hx⟩,qzh (sP4 qza) qza qza,by show l.length-(i+1)<l.length-i;omega⟩
 · have:i=l.length:=by have:=lG h;omega
   subst this;rw[List.drop_length,Lg.idxF]at hx;rw[hx]at hK;exact⟨_,qzb (.rfl _),hK⟩
def fldD (x:List UInt8×Int):D:=.ag [.st x.1,.int .i64 x.2]
def qqk (x:Ty):D:=.ag [.st x.name,.int .i64 x.sort,.int .i64 x.of,.sl 2 (x.fields.map fldD) false,.sl 3 (x.facts.map leqD) false]
section
variable (n:Ty)
@[go_sem ↓]theorem ty_lcs:D.lcs (qqk n)=[.d (.st n.name),.d (.int .i64 n.sort),.d (.int .i64 n.of),.d (.sl 2 (n.fields.map fldD) false),.d (.sl 3 (n.facts.map leqD) false)]:=(rfl)
@[go_sem ↓]theorem ty_cs:D.cs (qqk n)=[.st n.name,.int .i64 n.sort,.int .i64 n.of,.sl 2 (n.fields.map fldD) false,.sl 3 (n.facts.map leqD) false]:=(rfl)
@[go_sem ↓]theorem ty_flat:D.flat (qqk n)=true:=(rfl)
@[go_sem ↓]theorem ty_lcells:qqz (.d (qqk n))=some [.d (.st n.name),.d (.int .i64 n.sort),.d (.int .i64 n.of),.d (.sl 2 (n.fields.map fldD) false),.d (.sl 3 (n.facts.map leqD) false)]:=(rfl)
@[go_sem ↓]theorem ty_pcs:pcs (.d (qqk n))=some [.d (.st n.name),.d (.int .i64 n.sort),.d (.int .i64 n.of),.d (.sl 2 (n.fields.map fldD) false),.d (.sl 3 (n.facts.map leqD) false)]:=(rfl)
@[go_sem ↓]theorem ty_one:one (.d (qqk n))=false:=(rfl)
end
theorem ty_ag (x:Ty):D.ag [.st x.name,.int .i64 x.sort,.int .i64 x.of,.sl 2 (x.fields.map fldD) false,.sl 3 (x.facts.map leqD) false]=qqk x:=rfl
theorem qvh {α:Type}{f:α->D}{l:List α}{i:Nat}(h:i<l.length):(l.map f)[i]?=some (f l[i]):=by rw[List.getElem?_map,lD h];rfl
def tabD (x:D)(t:List Ty):Prop:=(∃f,x=.sl 5 (t.map qqk) f)\/(x=.imm (.slice none 0 0)/\t=[])
def find1S:Spec:=fun ys bx Kr Kp=>∃s t,ys=[.d (qqk t),.bp 1000 0]/\bx 1000=some (nbx s)/\Kr (.d (.bool (t.name==s))) (put 1000 (nbx s) nix) none
theorem find1_OK:OK Tryz.prog 129 find1S:=by
 refine fn_OK' qzu (E:=EV) (sp:=spL []) qzt qzl (OKs.ok trivial) func129 rfl ntmps129 results129 call129 [1000] none ?_;rintro ys bx Kr Kp ⟨s,t,rfl,hb,hK⟩
 refine⟨[(1000,nbx s)],rfl,⟨by decide,hb,trivial⟩,by simp,?_⟩
 simp only[nbx,go_sem];exact⟨_,qzb (.rfl _),hK⟩
def ixtS:Spec:=fun ys bx Kr Kp=>∃s l x,ys=[.d x,.fn (.func 129) [] [.bp 1000 0]]/\tabD x l/\bx 1000=some (nbx s)/\l.length<=4096/\
 Kr (.d (.int .i64 (Lg.qkv l s))) (put 1000 (nbx s) nix) none
theorem ixt_OK:OK Tryz.prog 128 ixtS:=by
 refine fn_OK' qzu (E:=EV) (sp:=spL [(129,find1S)]) qzt qzl (OKs.ok ⟨find1_OK,trivial⟩) func128 rfl ntmps128 results128 call128 [1000] none ?_;rintro ys bx Kr Kp ⟨s,l,x0,rfl,htab,hb,hl,hK⟩
 refine⟨[(1000,nbx s)],rfl,⟨by decide,hb,trivial⟩,by simp,?_⟩
 rcases htab with⟨fl,rfl⟩|⟨rfl,rfl⟩
 rotate_left
 · simp only[go_sem];refine qzj (T:=Unit) (fun _=>⟨19,put 7 (.d (.int .i64 0)) (put 8 (.d (.int .i64 0)) nix),put 1000 (nbx s) nix,nix⟩) (fun _=>0) () (qzh (sP2 qza) (sP1 qza) qza) ?_;rintro⟨⟩;simp only[go_sem]
   exact⟨fun h=>absurd h (by simp),fun _=>⟨_,qzb (.rfl _),hK⟩⟩
 simp only[lE,go_sem];unfold Lg.qkv at hK
 refine qzj (T:={i:Nat //i<=l.length/\Lg.idxF (fun x:Ty=>x.name==s) l 0=Lg.idxF (fun x:Ty=>x.name==s) (l.drop i) i}) (fun i=>⟨19,put 0 (.d (.sl 5 (l.map qqk) fl)) (put 1 (.fn (.func 129) [] [.bp 1000 0]) (put 7 (.d (.int .i64 l.length)) (put 8 (.d (.int .i64 i.1)) nix))),put 1000 (nbx s) nix,nix⟩) (fun i=>l.length-i.1) ⟨0,by omega,rfl⟩
  (qzh (sP4 qza) (sP1 qza) qza) ?_
 rintro⟨i,hi,hx⟩;simp only[lE,go_sem]
 refine⟨fun h=>?_,fun h=>?_⟩
 · have hlt:i<l.length:=by have:=lF h;omega
   rw[List.drop_eq_getElem_cons hlt,Lg.idxF]at hx
   refine⟨by omega,by omega,?_⟩
   rw[lA,qvh hlt];simp only[ty_ag,go_sem];refine⟨s,l[i],rfl,rfl,?_⟩;simp only[go_sem]
   refine⟨fun h=>?_,fun h=>?_⟩
   ·rw[if_pos h]at hx;rw[hx]at hK;exact⟨_,qzb (.rfl _),hK⟩
   · rw[if_neg (by rw[h];decide)]at hx
     exact⟨⟨by omega,by omega⟩,⟨i+1,hlt,hx⟩,qzh (sP4 qza) (sP1 qza) qza,by show l.length-(i+1)<l.length-i;omega⟩
 · have:i=l.length:=by have:=lG h;omega
   subst this;rw[List.drop_length,Lg.idxF]at hx;rw[hx]at hK;exact⟨_,qzb (.rfl _),hK⟩
def findS:Spec:=fun ys bx Kr Kp=>∃s l x,ys=[.d x,.d (.st s)]/\tabD x l/\l.length<=4096/\Kr (.d (.int .i64 (Lg.qkv l s))) nix none
theorem find_OK:OK Tryz.prog 92 findS:=by
 refine fn_OK' qzu (E:=EV) (sp:=spL [(128,ixtS)]) qzt qzl (OKs.ok ⟨ixt_OK,trivial⟩) func92 rfl ntmps92 results92 call92 [] none ?_;rintro ys bx Kr Kp ⟨s,l,x0,rfl,htab,hl,hK⟩
 refine⟨[],rfl,trivial,by simp,?_⟩
 simp only[go_sem];refine⟨s,l,x0,rfl,htab,rfl,hl,?_⟩;simp only[go_sem];exact⟨_,qzb (.rfl _),hK⟩
open Lg (Tok Tree Ty Sym Chk Hp)
abbrev EH:Env:=mkH false (fun _=>false) (fun _=>true) (fun _=>false)
abbrev ES (d:Nat):Env:=mkH false (fun _=>false) (fun _=>true) (fun j=>j==d)
def symD (s:Sym):D:=.ag [.int .i64 s.kind,.int .i64 s.var,.int .i64 s.k,.int .i64 s.block]
abbrev ptD (h:Nat):D:=.imm (.pointer (some ⟨h,0,none⟩))
abbrev slD (b n c:Nat):D:=.imm (.slice (some ⟨b,0,none⟩) n c)
def hbox (va:D)(vr:Int)(fv:D):Box:=⟨[.d va,.d (.int .i64 vr),.d fv],59⟩
def qvf (z:Nat)(v:D)(xs:List D):Prop:=(∃f,v=.sl z xs f)\/v=.imm (.slice none 0 0)/\xs=[]
theorem NS.ovs {bx f:Bx}(hN:NS bx){h:Nat}{b:Box}(hb:bx (h+1000000)=some b):ovS bx f (h+1000000)=some b:=by
 rw[qw7,if_pos (by omega),hb];have:=hN.dc _ _ hb;obtain⟨cs,ty⟩:=b;exact congrArg (fun c=>some (Box.mk c ty)) this
def clipS (z:Nat):Spec:=fun ys bx Kr Kp=>∃x xs,ys=[.d x]/\qvf z x xs/\Kr (.d (.sl z xs true)) nix none
theorem clip_OK:OK Tryz.prog 65 (clipS 3):=by
 refine fn_OK' qzu (E:=EV) (sp:=spL []) qzt qzl (OKs.ok trivial) func65 rfl ntmps65 results65 call65 [] none ?_;rintro ys bx Kr Kp ⟨x,xs,rfl,hx,hK⟩
 refine⟨[],rfl,trivial,by simp,?_⟩
 rcases hx with⟨f,rfl⟩|⟨rfl,rfl⟩
 ·simp only[go_sem];exact⟨_,qzb (.rfl _),hK⟩
 ·simp only[go_sem];exact⟨_,qzb (.rfl _),hK⟩
def assumeS:Spec:=fun ys bx Kr Kp=>∃h va vr fv fd,∃facts fs:List (Int×Int×Int),ys=[.d (ptD h),.d fd]/\qvf 3 fd (fs.map leqD)/\bx (h+1000000)=some (hbox va vr fv)/\qvf 3 fv (facts.map leqD)/\facts.length<=100000/\fs.length<=100000/\
 if 768<facts.length+fs.length then Kr (.d (.int .i64 22)) (ovS bx nix) none else∀fv',qvf 3 fv' ((facts++fs).map leqD)->Kr (.d (.int .i64 0)) (put (h+1000000) (hbox va vr fv') (ovS bx nix)) none
theorem assume_OK:OKS Tryz.prog 29 assumeS:=by
 refine qv8 qzu (E:=EH) (sp:=spL [(65,(clipS 3))]) qzt qzl (OKs.ok ⟨clip_OK,trivial⟩) func29 rfl ntmps29 results29 call29 [] ?_;rintro ys bx Kr Kp ⟨h,va,vr,fv,fd,facts,fs,rfl,hfd,hb,hfv,hl1,hl2,hK⟩ hN
 refine⟨trivial,by simp,?_⟩
 have hb':bx (h+1000000)=some ⟨[.d va,.d (.int .i64 vr),.d fv],59⟩:=hb
 have hn:∀{l:List (Int×Int×Int)},l.map leqD=[]->l=[]:=fun h=>by simpa using h
 rcases hfv with⟨f,rfl⟩|⟨rfl,hfn⟩<;>rcases hfd with⟨f',rfl⟩|⟨rfl,hfn'⟩
 · simp only[hb',hN.fgt,hN.fz,lE,Int.zero_add,Int.add_zero,go_sem]
   refine⟨by omega,fun h1=>?_,fun h1=>?_⟩
   · rw[if_pos (by have:=lF h1;first|omega|(simp only[lH];omega))]at hK
     refine qz8 [] ?_;simp only[go_sem];exact⟨_,_,qzb (.rfl _),qz6,hK⟩
   · rw[if_neg (by have:=lG h1;first|omega|(simp only[lH];omega))]at hK
     refine⟨_,_,rfl,.inl ⟨f,rfl⟩,?_⟩;simp only[hb',hN.fgt,hN.fz,lE,qqc,go_sem]
     refine⟨by omega,by omega,fun hz=>?_,fun hz=>?_⟩
     ·refine qz8 [] ?_;simp only[go_sem];exact⟨_,_,qzb (.rfl _),qz6,hK _ (.inl ⟨true,by simp[hz]⟩)⟩
     · refine qz8 [21] ?_;simp only[hN.fz,go_sem]
       exact⟨_,_,qzb (.rfl _),qz6,hK _ (.inl ⟨_,by first|(rw[List.map_append];done)|rfl⟩)⟩
 · cases hn hfn';simp only[hb',hN.fgt,hN.fz,lE,Int.zero_add,Int.add_zero,go_sem]
   refine⟨by omega,fun h1=>?_,fun h1=>?_⟩
   · rw[if_pos (by have:=lF h1;first|omega|(simp only[lH];omega))]at hK
     refine qz8 [] ?_;simp only[go_sem];exact⟨_,_,qzb (.rfl _),qz6,hK⟩
   · rw[if_neg (by have:=lG h1;first|omega|(simp only[lH];omega))]at hK
     refine⟨_,_,rfl,.inl ⟨f,rfl⟩,?_⟩;simp only[hb',hN.fgt,hN.fz,lE,qqc,go_sem]
     refine⟨by omega,by omega,?_⟩
     refine qz8 [] ?_;simp only[go_sem];exact⟨_,_,qzb (.rfl _),qz6,hK _ (.inl ⟨_,by rw[List.append_nil]⟩)⟩
 · cases hn hfn;simp only[hb',hN.fgt,hN.fz,lE,Int.zero_add,Int.add_zero,go_sem]
   refine⟨by omega,fun h1=>?_,fun h1=>?_⟩
   · rw[if_pos (by have:=lF h1;first|omega|(simp only[lH];omega))]at hK
     refine qz8 [] ?_;simp only[go_sem];exact⟨_,_,qzb (.rfl _),qz6,hK⟩
   · rw[if_neg (by have:=lG h1;first|omega|(simp only[lH];omega))]at hK
     refine⟨_,_,rfl,.inr ⟨rfl,rfl⟩,?_⟩;simp only[hb',hN.fgt,hN.fz,lE,qqc,go_sem]
     refine⟨by omega,by omega,fun hz=>?_,fun hz=>?_⟩
     ·refine qz8 [] ?_;simp only[go_sem];exact⟨_,_,qzb (.rfl _),qz6,hK _ (.inl ⟨true,by simp[hz]⟩)⟩
     · refine qz8 [21] ?_;simp only[hN.fz,go_sem]
       exact⟨_,_,qzb (.rfl _),qz6,hK _ (.inl ⟨_,by first|(rw[List.map_append];done)|rfl⟩)⟩
 · cases hn hfn;cases hn hfn';simp only[hb',hN.fgt,hN.fz,lE,Int.zero_add,Int.add_zero,go_sem];rw[if_neg (by decide)]at hK
   refine⟨fun h1=>(lF h1).elim,fun _=>⟨_,_,rfl,.inr ⟨rfl,rfl⟩,?_⟩⟩
   simp only[hb',hN.fgt,hN.fz,lE,qqc,go_sem];refine qz8 [] ?_;simp only[go_sem];exact⟨_,_,qzb (.rfl _),qz6,hK _ (.inl ⟨_,rfl⟩)⟩
def freshS:Spec:=fun ys bx Kr Kp=>∃h va vr fv,∃facts:List (Int×Int×Int),ys=[.d (ptD h)]/\bx (h+1000000)=some (hbox va vr fv)/\qvf 3 fv (facts.map leqD)/\facts.length<=100000/\0<=vr/\
 if 96<=vr\/768<facts.length+2 then Kr (.tup [.d (symD Lg.zSym),.d (.int .i64 22)]) (ovS bx nix) none else∀fv',qvf 3 fv' ((facts++[(vr,0,1099511627776),(0,vr,1099511627776)]).map leqD)->Kr (.tup [.d (symD (Lg.nSym vr)),.d (.int .i64 0)]) (put (h+1000000) (hbox va (vr+1) fv') (ovS bx nix)) none
theorem fresh_OK:OKS Tryz.prog 13 freshS:=by
 refine qv8 qzu (E:=EH) (sp:=spL [(29,.c assumeS)]) qzt qzl (OKs.ok ⟨assume_OK,trivial⟩) func13 rfl ntmps13 results13 call13 [] ?_;rintro ys bx Kr Kp ⟨h,va,vr,fv,facts,rfl,hb,hfv,hl1,hv,hK⟩ hN
 refine⟨trivial,by simp,?_⟩
 have hb':bx (h+1000000)=some ⟨[.d va,.d (.int .i64 vr),.d fv],59⟩:=hb;simp only[hb',hN.fgt,hN.fz,go_sem]
 refine⟨fun h1=>?_,fun h1=>?_⟩
 ·rw[if_pos (.inl (lF h1))]at hK;refine qz8 [] ?_;simp only[hN.fz,go_sem];exact⟨_,_,.cons (.rfl _) (qzb (.rfl _)),qz6,hK⟩
 · refine⟨h,va,vr,fv,_,facts,[(vr,0,1099511627776),(0,vr,1099511627776)],rfl,.inl ⟨_,rfl⟩,hN.ovs hb,hfv,hl1,by show 2<=100000;decide,?_⟩
   by_cases h2:768<facts.length+2
   ·rw[if_pos (.inr h2)]at hK;rw[if_pos (show 768<facts.length+[(vr,0,(1099511627776:Int)),(0,vr,1099511627776)].length from h2)];simp only[hN.fgt,hN.fz,qqc,go_sem];refine qz8 [] ?_;simp only[hN.fgt,hN.fz,qqc,go_sem];exact⟨_,_,.cons (.rfl _) (qzb (.rfl _)),qz6,hK⟩
   · rw[if_neg (by have:=lG h1;omega)]at hK;rw[if_neg (show¬768<facts.length+[(vr,0,(1099511627776:Int)),(0,vr,1099511627776)].length from h2)];intro fv' hfv';unfold hbox;simp only[hN.fgt,hN.fz,qqc,go_sem]
     refine⟨by have:=lG h1;omega,qz8 [] ?_⟩
     simp only[hN.fgt,hN.fz,qqc,go_sem];exact⟨_,_,.cons (.rfl _) (qzb (.rfl _)),qz6,hK _ hfv'⟩
def symB (cs:List Sym)(c:Nat):Box:=⟨(cs.map symD).flatMap D.lcs++List.replicate ((c-cs.length)*4) .un,52⟩
theorem qj7:∀xs:List D,dC (xs.flatMap D.lcs)=xs.flatMap D.lcs
 |[]=>rfl
 |x::xs=>by
  rw[List.flatMap_cons,zqa,qj7 xs]
  congr 1
  cases x<;>first|exact dC_map _|rfl
def cloneS:Spec:=fun ys bx Kr Kp=>∃v,∃xs:List Sym,ys=[.d v]/\qvf 4 v (xs.map symD)/\xs.length<=100000/\
 (xs=[]->∀v',qvf 4 v' []->Kr (.d v') (ovS bx nix) none)/\
 (xs≠[]->∀b c,bx (b+1000000)=none->xs.length<=c->Kr (.d (slD b xs.length c)) (put (b+1000000) (symB xs c) (ovS bx nix)) none)
theorem clone_OK:OKS Tryz.prog 36 cloneS:=by
 refine qv8 qzu (E:=(ES 7)) (sp:=spL []) qzt qzl (OKs.ok trivial) func36 rfl ntmps36 results36 call36 [] ?_;rintro ys bx Kr Kp ⟨v,xs,rfl,hv,hl,h1,h2⟩ hN
 refine⟨trivial,by simp,?_⟩
 rcases hv with⟨f,rfl⟩|⟨rfl,hn⟩
 · cases xs with
   |nil=>
    simp only[List.map_nil,go_sem]
    refine fun b=>⟨fun hb=>?_,fun hb=>?_⟩
    ·refine qz8 [] ?_;simp only[go_sem];exact⟨_,_,qzb (.rfl _),qz6,h1 rfl _ (.inr ⟨rfl,rfl⟩)⟩
    · refine⟨_,rfl,rfl,rfl,by decide,by decide,fun _=>?_,fun h=>absurd rfl h⟩
      simp only[go_sem];refine qz8 [] ?_;simp only[go_sem];exact⟨_,_,qzb (.rfl _),qz6,h1 rfl _ (.inl ⟨_,rfl⟩)⟩
   |cons x xs=>
    simp only[List.map_cons,go_sem]
    refine⟨by simp[symD,D.flat],⟨_,rfl,rfl,rfl,?_,?_,fun e=>(nomatch e),fun _ b c h1 hc=>?_⟩⟩
    ·simp at hl⊢;omega
    ·simp at hl⊢;omega
    simp only[hN.fgt,go_sem];refine qz8 [] ?_;simp only[go_sem];rw[qj7]
    have hc:(x::xs).length<=c:=by simpa using hc
    exact⟨_,_,qzb (.rfl _),qz6,h2 (by simp) b c h1 hc⟩
 · have hn:xs=[]:=by simpa using hn
   simp only[go_sem]
   refine⟨fun _=>qz8 [] ?_,fun h=>nomatch h⟩
   simp only[go_sem];exact⟨_,_,qzb (.rfl _),qz6,h1 hn _ (.inr ⟨rfl,rfl⟩)⟩
def clipHS:Spec:=fun ys bx Kr _=>∃A n c,ys=[.d (slD A n c)]/\0<n/\n<=c/\Kr (.d (slD A n n)) nix none\/ys=[.d (.imm (.slice none 0 0))]/\Kr (.d (.sl 11 [] true)) nix none
theorem clipH_OK:OK Tryz.prog 116 clipHS:=by
 refine fn_OK' qzu (E:=EV) (sp:=spL []) qzt qzl (OKs.ok trivial) func116 rfl ntmps116 results116 call116 [] none ?_
 rintro ys bx Kr Kp ⟨A,n,c,⟨rfl,h0,hn,hK⟩|⟨rfl,hK⟩⟩
 · refine⟨[],rfl,trivial,by simp,?_⟩
   simp only[go_sem];exact⟨h0,hn,_,qzb (.rfl _),hK⟩
 · refine⟨[],rfl,trivial,by simp,?_⟩
   simp only[go_sem];exact⟨_,qzb (.rfl _),hK⟩
def chkD (c:Chk)(v:D):D:=.ag [.int .i64 c.origin,.int .i64 c.typ,.int .i64 c.at_,.bool c.live,.bool c.held,.bool c.array,.int .i64 c.size.kind,.int .i64 c.size.var,.int .i64 c.size.k,.int .i64 c.size.block,v]
def chkB (cs:List Chk)(vs:List D)(c:Nat):Box:=⟨(List.zipWith chkD cs vs).flatMap D.lcs++List.replicate ((c-cs.length)*11) .un,62⟩
def blk:D->Option Nat
 |.imm (.slice (some ⟨b,0,none⟩) _ _)=>some b
 |_=>none
def cellsOf (bx:Bx)(v:D)(cs:List Sym):Prop:=cs=[]/\qvf 4 v []\/cs≠[]/\∃R c,v=slD R cs.length c/\cs.length<=c/\bx (R+1000000)=some (symB cs c)
def chksOf (bx:Bx)(va:D)(cs:List Chk)(vs:List D):Prop:=cs=[]/\va=.imm (.slice none 0 0)\/cs≠[]/\∃A c,va=slD A cs.length c/\cs.length<=c/\bx (A+1000000)=some (chkB cs vs c)
structure HpB (bx:Bx)(h:Nat)(va fv:D)(vs:List D)(H:Hp):Prop where
 box:bx (h+1000000)=some (hbox va H.vars fv)
 facts:qvf 3 fv (H.facts.map leqD)
 nf:H.facts.length<=100000
 nv:0<=H.vars
 len:vs.length=H.chunks.length
 chunks:chksOf bx va H.chunks vs
 cells:∀(i:Nat) (c:Chk) (v:D),H.chunks[i]?=some c->vs[i]?=some v->cellsOf bx v c.cells
 inj:∀(i j:Nat) (v w:D) (R:Nat),vs[i]?=some v->vs[j]?=some w->blk v=some R->blk w=some R->i=j
def HpA (bx:Bx)(h:Nat)(F:List Nat)(H:Hp):Prop:=∃va fv vs,HpB bx h va fv vs H/\F=(va::vs).filterMap blk
structure Frm (bx bx':Bx)(h:Nat)(F F':List Nat):Prop where
 keep:∀k b,bx (k+1000000)=some b->k≠h->k∉F->bx' (k+1000000)=some b
 new:∀a∈F',a∈F\/bx (a+1000000)=none
theorem cellsOf.blk {bx:Bx}{v:D}{cs:List Sym}(h:cellsOf bx v cs){R:Nat}(hR:blk v=some R):∃c,bx (R+1000000)=some (symB cs c):=by
 rcases h with⟨_,⟨f,rfl⟩|⟨rfl,_⟩⟩|⟨_,R',c,rfl,_,hb⟩
 ·cases hR
 ·cases hR
 ·cases hR;exact⟨c,hb⟩
theorem HpB.vsome {bx:Bx}{h:Nat}{va fv:D}{vs:List D}{H:Hp}(hA:HpB bx h va fv vs H){i:Nat}{v:D}(hv:vs[i]?=some v):∃c,H.chunks[i]?=some c:=by
 have:=(List.getElem?_eq_some_iff.mp hv).1;exact⟨_,lD (hA.len▸this)⟩
theorem HpB.cellBox {bx:Bx}{h:Nat}{va fv:D}{vs:List D}{H:Hp}(hA:HpB bx h va fv vs H){i:Nat}{v:D}{R:Nat}(hv:vs[i]?=some v)(hR:blk v=some R):∃c cs,bx (R+1000000)=some (symB cs c):=by
 obtain⟨c,hc⟩:=hA.vsome hv;obtain⟨k,hk⟩:=(hA.cells i c v hc hv).blk hR;exact⟨_,_,hk⟩
theorem Frm.refl {bx:Bx}{h:Nat}{F:List Nat}:Frm bx bx h F F:=⟨fun _ _ h _ _=>h,fun _ h=>.inl h⟩
theorem Frm.trans {bx b1 b2:Bx}{h:Nat}{F F1 F2:List Nat}(h1:Frm bx b1 h F F1)(h2:Frm b1 b2 h F1 F2)(hh:∃x,b1 (h+1000000)=some x):Frm bx b2 h F F2:=by
 refine⟨fun k b hk hne hF=>h2.keep k b (h1.keep k b hk hne hF) hne fun hm=>?_,fun a ha=>?_⟩
 · rcases h1.new k hm with e|e
   ·exact hF e
   ·rw[hk]at e;cases e
 · rcases h2.new a ha with e2|e2
   ·exact h1.new a e2
   · by_cases hF:a∈F
     ·exact .inl hF
     · cases e:bx (a+1000000)with
       |none=>exact .inr rfl
       |some b=>
        by_cases hn:a=h
        ·subst hn;obtain⟨x,hx⟩:=hh;rw[hx]at e2;cases e2
        ·rw[h1.keep a b e hn hF]at e2;cases e2
theorem HpB.more {bx bx':Bx}{h:Nat}{va fv:D}{vs:List D}{H:Hp}(hA:HpB bx h va fv vs H){A c':Nat}{v:D}{c:Chk}
  (h1:bx' (h+1000000)=some (hbox (slD A (H.chunks.length+1) c') H.vars fv))(h2:bx' (A+1000000)=some (chkB (H.chunks++[c]) (vs++[v]) c'))(hc:H.chunks.length+1<=c')(h3:cellsOf bx' v c.cells)
  (h4:∀R,blk v=some R->bx (R+1000000)=none)(h5:∀k,bx (k+1000000)≠none->k≠h->blk va≠some k->bx' (k+1000000)=bx (k+1000000))(h6:bx (A+1000000)=none\/blk va=some A):
  HpB bx' h (slD A (H.chunks.length+1) c') fv (vs++[v]) (H.put c).2/\Frm bx bx' h ((va::vs).filterMap Lx.blk) ((slD A (H.chunks.length+1) c'::(vs++[v])).filterMap Lx.blk):=by
 have hvaf:∀k,blk va=some k->∃x,bx (k+1000000)=some x/\x.ty=62:=by
  intro k hk
  rcases hA.chunks with⟨_,rfl⟩|⟨_,A',c1,rfl,_,hb⟩
  ·cases hk
  ·cases hk;exact⟨_,hb,rfl⟩
 have hvk:∀(i:Nat) (w:D) (R:Nat),vs[i]?=some w->blk w=some R->bx' (R+1000000)=bx (R+1000000)/\∃x,bx (R+1000000)=some x/\x.ty=52:=by
  intro i w R hw hR;obtain⟨c1,cs1,hb⟩:=hA.cellBox hw hR;refine⟨h5 R (by rw[hb];simp) (fun e=>?_) (fun e=>?_),_,hb,rfl⟩
  ·subst e;exact absurd (show(some 59:Option Nat)=some 52 from congrArg (Option.map Box.ty) (hA.box.symm.trans hb)) (by decide)
  ·obtain⟨x,hx,ht⟩:=hvaf R e;exact absurd (show some x.ty=some 52 from congrArg (Option.map Box.ty) (hx.symm.trans hb)) (by rw[ht];decide)
 refine⟨⟨h1,hA.facts,hA.nf,hA.nv,by simp[hA.len,Lg.Hp.put],.inr ⟨by simp[Lg.Hp.put],A,c',by simp[Lg.Hp.put],by simpa[Lg.Hp.put]using hc,h2⟩,?_,?_⟩,?_,?_⟩
 · intro i d w hd hw;simp only[Lg.Hp.put]at hd;by_cases hi:i<vs.length
   · rw[List.getElem?_append_left hi]at hw;rw[List.getElem?_append_left (hA.len▸hi)]at hd
     rcases hA.cells i d w hd hw with h|⟨hne,R,c1,rfl,hl,hb⟩
     ·exact .inl h
     ·exact .inr ⟨hne,R,c1,rfl,hl,by rw[(hvk i _ R hw rfl).1];exact hb⟩
   · rw[List.getElem?_append_right (by omega)]at hw;rw[List.getElem?_append_right (by rw[<-hA.len];omega)]at hd
     have hi0:i-vs.length=0:=by
      have:=(List.getElem?_eq_some_iff.mp hw).1;simp at this;omega
     have hi1:i-H.chunks.length=0:=by rw[<-hA.len];exact hi0
     rw[hi0]at hw;rw[hi1]at hd;simp only[List.getElem?_cons_zero,Option.some.injEq]at hw hd;subst hw hd;exact h3
 · intro i j w x R hw hx hR hR'
   have key:∀(i:Nat) (w:D),(vs++[v])[i]?=some w->i<vs.length/\vs[i]?=some w\/i=vs.length/\w=v:=by
    intro i w hw;by_cases hi:i<vs.length
    ·exact .inl ⟨hi,by rwa [List.getElem?_append_left hi]at hw⟩
    · rw[List.getElem?_append_right (by omega)]at hw
      have hi0:i-vs.length=0:=by
       have:=(List.getElem?_eq_some_iff.mp hw).1;simp at this;omega
      rw[hi0]at hw;simp only[List.getElem?_cons_zero,Option.some.injEq]at hw
      exact .inr ⟨by omega,hw.symm⟩
   rcases key i w hw with⟨h7,h8⟩|⟨h7,rfl⟩<;>rcases key j x hx with⟨h9,h10⟩|⟨h9,rfl⟩
   ·exact hA.inj i j w x R h8 h10 hR hR'
   ·obtain⟨y,hy,_⟩:=(hvk i w R h8 hR).2;rw[h4 R hR']at hy;cases hy
   ·obtain⟨y,hy,_⟩:=(hvk j x R h10 hR').2;rw[h4 R hR]at hy;cases hy
   ·omega
 · intro k b hk hne hF
   rw[h5 k (by rw[hk];simp) hne fun e=>hF (List.mem_filterMap.mpr ⟨va,List.mem_cons_self ..,e⟩)]
   exact hk
 · intro a ha;obtain⟨w,hw,hb⟩:=List.mem_filterMap.mp ha
   rcases List.mem_cons.mp hw with rfl|hw
   · cases hb
     rcases h6 with h6|h6
     ·exact .inr h6
     ·exact .inl (List.mem_filterMap.mpr ⟨va,List.mem_cons_self ..,h6⟩)
   · rcases List.mem_append.mp hw with hw|hw
     ·exact .inl (List.mem_filterMap.mpr ⟨w,List.mem_cons_of_mem _ hw,hb⟩)
     ·rw[List.mem_singleton.mp hw]at hb;exact .inr (h4 a hb)
theorem NS.ov_eq {bx:Bx}(hN:NS bx)(f:Bx)(k:Nat):ovS bx f (k+1000000)=bx (k+1000000):=by
 cases e:bx (k+1000000)with
 |none=>rw[qw7,if_pos (by omega),e];rfl
 |some b=>exact hN.ovs e
theorem HpB.congr {bx bx':Bx}{h:Nat}{va fv:D}{vs:List D}{H:Hp}(hA:HpB bx h va fv vs H)(e:∀k b,bx (k+1000000)=some b->dC b.cells=b.cells->bx' (k+1000000)=some b):HpB bx' h va fv vs H where
 box:=e _ _ hA.box rfl
 facts:=hA.facts
 nf:=hA.nf
 nv:=hA.nv
 len:=hA.len
 chunks:=by
  rcases hA.chunks with h|⟨hn,A,c,h1,h2,h3⟩
  ·exact .inl h
  ·exact .inr ⟨hn,A,c,h1,h2,e _ _ h3 (by simp only[chkB,zqa,qj7,zq4])⟩
 cells i c v hc hv:=by
  rcases hA.cells i c v hc hv with h|⟨hn,R,k,h1,h2,h3⟩
  ·exact .inl h
  ·exact .inr ⟨hn,R,k,h1,h2,e _ _ h3 (by simp only[symB,zqa,qj7,zq4])⟩
 inj:=hA.inj
theorem HpA.ov {bx:Bx}{h:Nat}{F:List Nat}{H:Hp}(hA:HpA bx h F H)(f:Bx):HpA (ovS bx f) h F H:=by
 obtain⟨va,fv,vs,hA,hF⟩:=hA
 exact⟨va,fv,vs,hA.congr fun k b hk hd=>by rw[qw7,if_pos (by omega),hk];obtain⟨cs,ty⟩:=b;exact congrArg (fun c=>some (Box.mk c ty)) hd,hF⟩
theorem qvc:∀(cs:List Chk) (vs:List D),vs.length=cs.length->((List.zipWith chkD cs vs).flatMap D.lcs).length=cs.length*11
 |[],[],_=>rfl
 |c::cs,v::vs,h=>by
  rw[List.zipWith_cons_cons,List.flatMap_cons,lC,qvc cs vs (by simpa using h)];simp only[chkD,D.lcs,lE,lB,lH];omega
theorem zjk {cs:List Chk}{vs:List D}{c:Chk}{v:D}{k k':Nat}(h:vs.length=cs.length):(⟨dC ((chkB cs vs k).cells.take (cs.length*11))++(chkD c v).lcs++List.replicate ((k'-(cs.length+1))*11) .un,62⟩:Box)=chkB (cs++[c]) (vs++[v]) k':=by
 unfold chkB;rw[List.take_append_of_le_length (by rw[qvc cs vs h];exact Nat.le_refl _),List.take_of_length_le (by rw[qvc cs vs h];exact Nat.le_refl _),List.zipWith_append (by rw[h]),List.flatMap_append,lC,qj7];simp only[List.zipWith_cons_cons,List.zipWith_nil_left,List.flatMap_cons,List.flatMap_nil,List.append_nil,lB,lH]
theorem HpB.fin {bx base:Bx}{h:Nat}{va fv:D}{vs:List D}{H:Hp}(hA:HpB bx h va fv vs H){A c':Nat}{v:D}{c:Chk}{n:Nat}{bA:Box}(hn:n=H.chunks.length+1)(hbA:bA=chkB (H.chunks++[c]) (vs++[v]) c')
  (hbase:∀k b,bx (k+1000000)=some b->blk va≠some k->base (k+1000000)=some b)(hA':bx (A+1000000)=none\/blk va=some A)(hAh:h≠A)(hc:n<=c')(h3:cellsOf base v c.cells)(h4:∀R,blk v=some R->bx (R+1000000)=none/\R≠A){P:Bx->Prop}
  (hK:∀bx' F',HpA bx' h F' (H.put c).2->Frm bx bx' h ((va::vs).filterMap blk) F'->P bx'):P (put (h+1000000) (hbox (slD A n c') H.vars fv) (put (A+1000000) bA base)):=by
 subst hn hbA;have hm:=hA.more (bx':=put (h+1000000) (hbox (slD A (H.chunks.length+1) c') H.vars fv) (put (A+1000000) (chkB (H.chunks++[c]) (vs++[v]) c') base)) (A:=A) (c':=c') (v:=v) (c:=c) (by simp[put]) (by simp[put];omega) hc ?_ (fun R hR=>(h4 R hR).1) ?_ hA'
 ·exact hK _ _ ⟨_,_,_,hm.1,rfl⟩ hm.2
 · rcases h3 with h3|⟨hne,R,k,rfl,hl,hb⟩
   ·exact .inl h3
   · have h5:=h4 R rfl
     have h6:R≠h:=fun e=>by subst e;rw[hA.box]at h5;cases h5.1
     exact .inr ⟨hne,R,k,rfl,hl,by simp only[put,Nat.add_right_cancel_iff,h6,h5.2,if_false];exact hb⟩
 · intro k hk hne hva
   cases e:bx (k+1000000)with
   |none=>exact absurd e hk
   |some b=>
    have h6:k≠A:=fun e2=>by
     subst e2
     rcases hA' with h7|h7
     ·rw[h7]at e;cases e
     ·exact hva h7
    simp only[put,Nat.add_right_cancel_iff,hne,h6,if_false];exact hbase k b e hva
theorem zvz {A2 b:Nat}{x:Box}{y:Option Box}(h:(if A2=b then some x else y)=none):A2≠b/\y=none:=by
 by_cases e:A2=b
 ·rw[if_pos e]at h;cases h
 ·rw[if_neg e]at h;exact⟨e,h⟩
theorem ite_two {A A2 b:Nat}{x:Box}{y:Option Box}(hne:b≠A)(h:(if A2=A then none else if A2=b then some x else y)=none):A2≠b/\(y=none\/A2=A):=by
 by_cases e:A2=A
 ·exact⟨fun e2=>hne (e2▸e),.inr e⟩
 ·rw[if_neg e]at h;exact⟨(zvz h).1,.inl (zvz h).2⟩
theorem qvt (cs:List Sym)(k:Nat):(⟨dC (symB cs k).cells,(symB cs k).ty⟩:Box)=symB cs k:=by simp only[symB,zqa,qj7,zq4]
theorem ite_none {A A2:Nat}{x:Option Box}(h:(if A2=A then none else x)=none):x=none\/A2=A:=by
 by_cases e:A2=A
 ·exact .inr e
 ·rw[if_neg e]at h;exact .inl h
def putS:Spec:=fun ys bx Kr Kp=>∃h c v F H,ys=[.d (ptD h),.d (chkD c v)]/\qvf 4 v (c.cells.map symD)/\c.cells.length<=100000/\H.chunks.length<=1000000000/\HpA bx h F H/\∀bx' F',HpA bx' h F' (H.put c).2->Frm bx bx' h F F'->Kr (.d (symD (H.put c).1)) bx' none
theorem put_OK:OKS Tryz.prog 61 putS:=by
 refine qv8 qzu (E:=(ES 17)) (sp:=spL [(36,.c cloneS),(116,clipHS)]) qzt qzl (OKs.ok ⟨clone_OK,⟨clipH_OK,trivial⟩⟩) func61 rfl ntmps61 results61 call61 [] ?_;rintro ys bx Kr Kp ⟨h,c,v,F,H,rfl,hv,hl,hn,⟨va,fv,vs,hA,hF⟩,hK⟩ hN;subst hF;have hK2:∀bx' F',HpA bx' h F' (H.put c).2->Frm bx bx' h ((va::vs).filterMap blk) F'->Kr (.d (.ag [.int .i64 2,.int .i64 0,.int .i64 0,.int .i64 H.chunks.length])) bx' none:=hK
 refine⟨trivial,by simp,?_⟩
 have hb':bx (h+1000000)=some ⟨[.d va,.d (.int .i64 H.vars),.d fv],59⟩:=hA.box;unfold chkD;simp only[hN.fgt,go_sem]
 refine⟨by rcases hv with⟨f,rfl⟩|⟨rfl,_⟩<;>rfl,v,c.cells,rfl,hv,hl,fun hnil v' hv'=>?_,fun hne0 b k hb hk=>?_⟩
 · rcases hv' with⟨f',rfl⟩|⟨rfl,_⟩<;>rcases hA.chunks with⟨hc0,rfl⟩|⟨hc0,A,c',rfl,hc',hcb⟩
   · have hvs:vs=[]:=List.eq_nil_of_length_eq_zero (by rw[hA.len,hc0];rfl)
     rw[show((H.chunks.length:Nat):Int)=0 from by rw[hc0];rfl]at hK2
     simp only[hN.fgt,qqc,hN.ov nix,go_sem];refine qz9 (wT 0 (wT 1 (wB 2 (wT 3 (wB 4 (wB 5 (wF 6 7 8 9 (wT 10 (wA 11 wZ))) 6 (wB 5 (wE 7 8 9 (wT 10 (wA 11 wZ))) 7 (wE 5 8 9 (wT 10 (wA 11 wZ))))) 6 (wB 4 (wB 5 (wE 7 8 9 (wT 10 (wA 11 wZ))) 7 (wE 5 8 9 (wT 10 (wA 11 wZ)))) 7 (wF 4 5 8 9 (wT 10 (wA 11 wZ)))))) 6 (wB 2 (wT 3 (wB 4 (wB 5 (wE 7 8 9 (wT 10 (wA 11 wZ))) 7 (wE 5 8 9 (wT 10 (wA 11 wZ)))) 7 (wF 4 5 8 9 (wT 10 (wA 11 wZ))))) 7 (wA 2 (wT 3 (wF 4 5 8 9 (wT 10 (wA 11 wZ))))))))) ?_;simp only[hb',hN.fgt,hN.fz,qqc,hN.ov nix,go_sem]
     repeat' first
      |apply And.intro
      |(refine⟨0,0,0,.inr ⟨rfl,?_⟩⟩;simp only[hb',hN.fgt,hN.fz,qqc,hN.ov nix,go_sem])
      |(refine⟨_,rfl,rfl,rfl,by decide,by decide,fun e=>(nomatch e),fun _ A2 c2 hA2 hc2=>?_⟩;simp only[go_sem]at hA2;have hne:(h=A2)=False:=eq_false fun e=>(by rw[<-e,hb']at hA2;cases hA2);simp only[hb',hN.fgt,hN.fz,qqc,hN.ov nix,hne,go_sem])
      |(refine qz8 [] ?_;simp only[hb',hN.fgt,hN.fz,qqc,hN.ov nix,go_sem];refine⟨_,_,qzb (.rfl _),qz6,?_⟩;exact hA.fin (n:=1) (v:=.sl 4 [] f') (c:=c) (P:=fun b=>Kr _ b none) (by rw[hc0];rfl) (by rw[hc0,hvs];rfl) (fun k b hk _=>hN.ovs hk) (.inl hA2) (fun e=>by rw[<-e,hb']at hA2;cases hA2) hc2 (.inl ⟨hnil,.inl ⟨_,rfl⟩⟩) (fun R hR=>nomatch hR) hK2)
   · have hcb':bx (A+1000000)=some ⟨(chkB H.chunks vs c').cells,62⟩:=hcb
     have hhA:h≠A:=fun e=>by subst e;exact absurd (show(some 59:Option Nat)=some 62 from congrArg (Option.map Box.ty) (hb'.symm.trans hcb')) (by decide)
     have hA0:(h=A)=False:=eq_false hhA
     have hcl:H.chunks.length*11<=(chkB H.chunks vs c').cells.length:=by
      unfold chkB;rw[lC,qvc _ _ hA.len];exact Nat.le_add_right _ _
     simp only[hN.fgt,qqc,hN.ov nix,go_sem];refine qz9 (wT 0 (wT 1 (wB 2 (wT 3 (wB 4 (wB 5 (wF 6 7 8 9 (wT 10 (wA 11 wZ))) 6 (wB 5 (wE 7 8 9 (wT 10 (wA 11 wZ))) 7 (wE 5 8 9 (wT 10 (wA 11 wZ))))) 6 (wB 4 (wB 5 (wE 7 8 9 (wT 10 (wA 11 wZ))) 7 (wE 5 8 9 (wT 10 (wA 11 wZ)))) 7 (wF 4 5 8 9 (wT 10 (wA 11 wZ)))))) 6 (wB 2 (wT 3 (wB 4 (wB 5 (wE 7 8 9 (wT 10 (wA 11 wZ))) 7 (wE 5 8 9 (wT 10 (wA 11 wZ)))) 7 (wF 4 5 8 9 (wT 10 (wA 11 wZ))))) 7 (wA 2 (wT 3 (wF 4 5 8 9 (wT 10 (wA 11 wZ))))))))) ?_;simp only[hb',hN.fgt,hN.fz,qqc,hN.ov nix,hcb',go_sem]
     repeat' first
      |omega
      |(refine⟨rfl,⟨(chkB H.chunks vs c').cells,62⟩,by simp only[hb',hN.fgt,hN.fz,qqc,hN.ov nix,hcb',go_sem],rfl,hcl,fun h=>absurd (show H.chunks.length+1<=H.chunks.length from h) (by omega),Nat.le_refl _,by show H.chunks.length+1<=_;omega,by show(H.chunks.length+1)*88<=_;omega,fun e=>(nomatch e),fun _ A2 c2 hA2 hc2=>?_⟩;simp only[go_sem]at hA2 hc2;have hor:bx (A2+1000000)=none\/A2=A:=ite_none hA2;have hne:(h=A2)=False:=eq_false fun e=>(by subst e;rcases hor with h9|h9;(rw[hb']at h9;cases h9);exact hhA h9);simp only[hb',hN.fgt,hN.fz,qqc,hN.ov nix,hcb',hne,hA0,go_sem])
      |apply And.intro
      |(refine⟨_,_,_,.inl ⟨rfl,List.length_pos_iff.mpr hc0,hc',?_⟩⟩;simp only[hb',hN.fgt,hN.fz,qqc,hN.ov nix,hcb',go_sem])
      |(refine qz8 [] ?_;simp only[hb',hN.fgt,hN.fz,qqc,hN.ov nix,hcb',hA0,Int.add_sub_cancel,go_sem];refine⟨_,_,qzb (.rfl _),qz6,?_⟩;exact hA.fin (n:=H.chunks.length+1) (v:=.sl 4 [] f') (c:=c) (P:=fun b=>Kr _ b none) rfl (zjk hA.len) (fun k b hk hv=>by rw[del,if_neg (fun e=>hv (by rw[show k=A by omega];rfl))];exact hN.ovs hk) (hor.imp id fun e=>by rw[e];rfl) (of_eq_false hne) hc2 (.inl ⟨hnil,.inl ⟨_,rfl⟩⟩) (fun R hR=>nomatch hR) hK2)
   · have hvs:vs=[]:=List.eq_nil_of_length_eq_zero (by rw[hA.len,hc0];rfl)
     rw[show((H.chunks.length:Nat):Int)=0 from by rw[hc0];rfl]at hK2
     simp only[hN.fgt,qqc,hN.ov nix,go_sem];refine qz9 (wT 0 (wT 1 (wB 2 (wT 3 (wB 4 (wB 5 (wF 6 7 8 9 (wT 10 (wA 11 wZ))) 6 (wB 5 (wE 7 8 9 (wT 10 (wA 11 wZ))) 7 (wE 5 8 9 (wT 10 (wA 11 wZ))))) 6 (wB 4 (wB 5 (wE 7 8 9 (wT 10 (wA 11 wZ))) 7 (wE 5 8 9 (wT 10 (wA 11 wZ)))) 7 (wF 4 5 8 9 (wT 10 (wA 11 wZ)))))) 6 (wB 2 (wT 3 (wB 4 (wB 5 (wE 7 8 9 (wT 10 (wA 11 wZ))) 7 (wE 5 8 9 (wT 10 (wA 11 wZ)))) 7 (wF 4 5 8 9 (wT 10 (wA 11 wZ))))) 7 (wA 2 (wT 3 (wF 4 5 8 9 (wT 10 (wA 11 wZ))))))))) ?_;simp only[hb',hN.fgt,hN.fz,qqc,hN.ov nix,go_sem]
     repeat' first
      |apply And.intro
      |(refine⟨0,0,0,.inr ⟨rfl,?_⟩⟩;simp only[hb',hN.fgt,hN.fz,qqc,hN.ov nix,go_sem])
      |(refine⟨_,rfl,rfl,rfl,by decide,by decide,fun e=>(nomatch e),fun _ A2 c2 hA2 hc2=>?_⟩;simp only[go_sem]at hA2;have hne:(h=A2)=False:=eq_false fun e=>(by rw[<-e,hb']at hA2;cases hA2);simp only[hb',hN.fgt,hN.fz,qqc,hN.ov nix,hne,go_sem])
      |(refine qz8 [] ?_;simp only[hb',hN.fgt,hN.fz,qqc,hN.ov nix,go_sem];refine⟨_,_,qzb (.rfl _),qz6,?_⟩;exact hA.fin (n:=1) (v:=.imm (.slice none 0 0)) (c:=c) (P:=fun b=>Kr _ b none) (by rw[hc0];rfl) (by rw[hc0,hvs];rfl) (fun k b hk _=>hN.ovs hk) (.inl hA2) (fun e=>by rw[<-e,hb']at hA2;cases hA2) hc2 (.inl ⟨hnil,.inr ⟨rfl,rfl⟩⟩) (fun R hR=>nomatch hR) hK2)
   · have hcb':bx (A+1000000)=some ⟨(chkB H.chunks vs c').cells,62⟩:=hcb
     have hhA:h≠A:=fun e=>by subst e;exact absurd (show(some 59:Option Nat)=some 62 from congrArg (Option.map Box.ty) (hb'.symm.trans hcb')) (by decide)
     have hA0:(h=A)=False:=eq_false hhA
     have hcl:H.chunks.length*11<=(chkB H.chunks vs c').cells.length:=by
      unfold chkB;rw[lC,qvc _ _ hA.len];exact Nat.le_add_right _ _
     simp only[hN.fgt,qqc,hN.ov nix,go_sem];refine qz9 (wT 0 (wT 1 (wB 2 (wT 3 (wB 4 (wB 5 (wF 6 7 8 9 (wT 10 (wA 11 wZ))) 6 (wB 5 (wE 7 8 9 (wT 10 (wA 11 wZ))) 7 (wE 5 8 9 (wT 10 (wA 11 wZ))))) 6 (wB 4 (wB 5 (wE 7 8 9 (wT 10 (wA 11 wZ))) 7 (wE 5 8 9 (wT 10 (wA 11 wZ)))) 7 (wF 4 5 8 9 (wT 10 (wA 11 wZ)))))) 6 (wB 2 (wT 3 (wB 4 (wB 5 (wE 7 8 9 (wT 10 (wA 11 wZ))) 7 (wE 5 8 9 (wT 10 (wA 11 wZ)))) 7 (wF 4 5 8 9 (wT 10 (wA 11 wZ))))) 7 (wA 2 (wT 3 (wF 4 5 8 9 (wT 10 (wA 11 wZ))))))))) ?_;simp only[hb',hN.fgt,hN.fz,qqc,hN.ov nix,hcb',go_sem]
     repeat' first
      |omega
      |(refine⟨rfl,⟨(chkB H.chunks vs c').cells,62⟩,by simp only[hb',hN.fgt,hN.fz,qqc,hN.ov nix,hcb',go_sem],rfl,hcl,fun h=>absurd (show H.chunks.length+1<=H.chunks.length from h) (by omega),Nat.le_refl _,by show H.chunks.length+1<=_;omega,by show(H.chunks.length+1)*88<=_;omega,fun e=>(nomatch e),fun _ A2 c2 hA2 hc2=>?_⟩;simp only[go_sem]at hA2 hc2;have hor:bx (A2+1000000)=none\/A2=A:=ite_none hA2;have hne:(h=A2)=False:=eq_false fun e=>(by subst e;rcases hor with h9|h9;(rw[hb']at h9;cases h9);exact hhA h9);simp only[hb',hN.fgt,hN.fz,qqc,hN.ov nix,hcb',hne,hA0,go_sem])
      |apply And.intro
      |(refine⟨_,_,_,.inl ⟨rfl,List.length_pos_iff.mpr hc0,hc',?_⟩⟩;simp only[hb',hN.fgt,hN.fz,qqc,hN.ov nix,hcb',go_sem])
      |(refine qz8 [] ?_;simp only[hb',hN.fgt,hN.fz,qqc,hN.ov nix,hcb',hA0,Int.add_sub_cancel,go_sem];refine⟨_,_,qzb (.rfl _),qz6,?_⟩;exact hA.fin (n:=H.chunks.length+1) (v:=.imm (.slice none 0 0)) (c:=c) (P:=fun b=>Kr _ b none) rfl (zjk hA.len) (fun k b hk hv=>by rw[del,if_neg (fun e=>hv (by rw[show k=A by omega];rfl))];exact hN.ovs hk) (hor.imp id fun e=>by rw[e];rfl) (of_eq_false hne) hc2 (.inl ⟨hnil,.inr ⟨rfl,rfl⟩⟩) (fun R hR=>nomatch hR) hK2)
 · have hb0:bx (b+1000000)=none:=by rwa [hN.ov_eq]at hb
   have hhb:(h=b)=False:=eq_false fun e=>by rw[<-e,hb']at hb0;cases hb0
   rcases hA.chunks with⟨hc0,rfl⟩|⟨hc0,A,c',rfl,hc',hcb⟩
   · have hvs:vs=[]:=List.eq_nil_of_length_eq_zero (by rw[hA.len,hc0];rfl)
     rw[show((H.chunks.length:Nat):Int)=0 from by rw[hc0];rfl]at hK2
     simp only[hN.fgt,qqc,hN.ov nix,qvt,go_sem];refine qz9 (wT 0 (wT 1 (wB 2 (wT 3 (wB 4 (wB 5 (wF 6 7 8 9 (wT 10 (wA 11 wZ))) 6 (wB 5 (wE 7 8 9 (wT 10 (wA 11 wZ))) 7 (wE 5 8 9 (wT 10 (wA 11 wZ))))) 6 (wB 4 (wB 5 (wE 7 8 9 (wT 10 (wA 11 wZ))) 7 (wE 5 8 9 (wT 10 (wA 11 wZ)))) 7 (wF 4 5 8 9 (wT 10 (wA 11 wZ)))))) 6 (wB 2 (wT 3 (wB 4 (wB 5 (wE 7 8 9 (wT 10 (wA 11 wZ))) 7 (wE 5 8 9 (wT 10 (wA 11 wZ)))) 7 (wF 4 5 8 9 (wT 10 (wA 11 wZ))))) 7 (wA 2 (wT 3 (wF 4 5 8 9 (wT 10 (wA 11 wZ))))))))) ?_;simp only[hb',hN.fgt,hN.fz,qqc,hN.ov nix,hhb,qvt,go_sem]
     repeat' first
      |apply And.intro
      |(refine⟨0,0,0,.inr ⟨rfl,?_⟩⟩;simp only[hb',hN.fgt,hN.fz,qqc,hN.ov nix,hhb,qvt,go_sem])
      |(refine⟨_,rfl,rfl,rfl,by decide,by decide,fun e=>(nomatch e),fun _ A2 c2 hA2 hc2=>?_⟩;simp only[go_sem]at hA2;obtain⟨hA2b,hA2⟩:=zvz hA2;have hne:(h=A2)=False:=eq_false fun e=>(by rw[<-e,hb']at hA2;cases hA2);have hb2:(A2=b)=False:=eq_false hA2b;simp only[hb',hN.fgt,hN.fz,qqc,hN.ov nix,hhb,qvt,hne,hb2,go_sem])
      |(refine qz8 [] ?_;simp only[hb',hN.fgt,hN.fz,qqc,hN.ov nix,hhb,qvt,go_sem];refine⟨_,_,qzb (.rfl _),qz6,?_⟩;exact hA.fin (n:=1) (v:=slD b c.cells.length k) (c:=c) (P:=fun b=>Kr _ b none) (by rw[hc0];rfl) (by rw[hc0,hvs];rfl) (fun j x hj _=>by rw[qqr _ _ (fun e=>by rw[e,hb0]at hj;cases hj)];exact hN.ovs hj) (.inl hA2) (fun e=>by rw[<-e,hb']at hA2;cases hA2) hc2 (.inr ⟨hne0,b,k,rfl,hk,qz7 ..⟩) (fun R hR=>by cases hR;exact⟨hb0,fun e=>hA2b e.symm⟩) hK2)
   · have hcb':bx (A+1000000)=some ⟨(chkB H.chunks vs c').cells,62⟩:=hcb
     have hhA:h≠A:=fun e=>by subst e;exact absurd (show(some 59:Option Nat)=some 62 from congrArg (Option.map Box.ty) (hb'.symm.trans hcb')) (by decide)
     have hA0:(h=A)=False:=eq_false hhA
     have hAb:(A=b)=False:=eq_false fun e=>by rw[<-e,hcb']at hb0;cases hb0
     have hcl:H.chunks.length*11<=(chkB H.chunks vs c').cells.length:=by
      unfold chkB;rw[lC,qvc _ _ hA.len];exact Nat.le_add_right _ _
     simp only[hN.fgt,qqc,hN.ov nix,qvt,go_sem];refine qz9 (wT 0 (wT 1 (wB 2 (wT 3 (wB 4 (wB 5 (wF 6 7 8 9 (wT 10 (wA 11 wZ))) 6 (wB 5 (wE 7 8 9 (wT 10 (wA 11 wZ))) 7 (wE 5 8 9 (wT 10 (wA 11 wZ))))) 6 (wB 4 (wB 5 (wE 7 8 9 (wT 10 (wA 11 wZ))) 7 (wE 5 8 9 (wT 10 (wA 11 wZ)))) 7 (wF 4 5 8 9 (wT 10 (wA 11 wZ)))))) 6 (wB 2 (wT 3 (wB 4 (wB 5 (wE 7 8 9 (wT 10 (wA 11 wZ))) 7 (wE 5 8 9 (wT 10 (wA 11 wZ)))) 7 (wF 4 5 8 9 (wT 10 (wA 11 wZ))))) 7 (wA 2 (wT 3 (wF 4 5 8 9 (wT 10 (wA 11 wZ))))))))) ?_;simp only[hb',hN.fgt,hN.fz,qqc,hN.ov nix,hcb',hhb,qvt,hAb,go_sem]
     repeat' first
      |omega
      |(refine⟨rfl,⟨(chkB H.chunks vs c').cells,62⟩,by simp only[hb',hN.fgt,hN.fz,qqc,hN.ov nix,hcb',hhb,qvt,hAb,go_sem],rfl,hcl,fun h=>absurd (show H.chunks.length+1<=H.chunks.length from h) (by omega),Nat.le_refl _,by show H.chunks.length+1<=_;omega,by show(H.chunks.length+1)*88<=_;omega,fun e=>(nomatch e),fun _ A2 c2 hA2 hc2=>?_⟩;simp only[go_sem]at hA2 hc2;obtain⟨hA2b,hor⟩:=ite_two (fun e=>of_eq_false hAb e.symm) hA2;have hne:(h=A2)=False:=eq_false fun e=>(by subst e;rcases hor with h9|h9;(rw[hb']at h9;cases h9);exact hhA h9);have hb2:(A2=b)=False:=eq_false hA2b;simp only[hb',hN.fgt,hN.fz,qqc,hN.ov nix,hcb',hhb,qvt,hAb,hne,hb2,hA0,go_sem])
      |(refine qz8 [] ?_;simp only[hb',hN.fgt,hN.fz,qqc,hN.ov nix,hcb',hhb,qvt,hAb,hA0,Int.add_sub_cancel,go_sem];refine⟨_,_,qzb (.rfl _),qz6,?_⟩;exact hA.fin (n:=H.chunks.length+1) (v:=slD b c.cells.length k) (c:=c) (P:=fun b=>Kr _ b none) rfl (zjk hA.len) (fun j x hj hv=>by rw[del,if_neg (fun e=>hv (by rw[show j=A by omega];rfl)),qqr _ _ (fun e=>by rw[e,hb0]at hj;cases hj)];exact hN.ovs hj) (hor.imp id fun e=>by rw[e];rfl) (of_eq_false hne) hc2 (.inr ⟨hne0,b,k,rfl,hk,by rw[del,if_neg (fun e=>of_eq_false hAb (by omega)),qz7]⟩) (fun R hR=>by cases hR;exact⟨hb0,fun e=>hA2b e.symm⟩) hK2)
      |apply And.intro
      |(refine⟨_,_,_,.inl ⟨rfl,List.length_pos_iff.mpr hc0,hc',?_⟩⟩;simp only[hb',hN.fgt,hN.fz,qqc,hN.ov nix,hcb',hhb,qvt,hAb,go_sem])
end Lx
