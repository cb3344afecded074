import Derived.Test.YtkknljojdgpdaaaGreatDoorB14
set_option maxHeartbeats 32000000
set_option linter.unusedSimpArgs false
set_option linter.unusedVariables false
set_option maxRecDepth 20000
namespace Lg
def qj2 (l:Bs):Bool:=(l != []&&zqk l&&l.all qqr&&decide (l.length<=16)&& !wxa l)
def qxZ:List Int:=[1,3,6,7,10,11,12,13,14,19,24,25,26,27,28]
def okW (k:Int)(s:Bs)(n:Int):Prop:=0<=k/\k<=28/\n<=1099511627776/\ -1099511627776<=n/\(k∈qxZ->qj2 s=true)/\(k=5->s=[]\/qj2 s=true)/\(k=4\/k=15\/k=16->s=sLt\/s=sLe\/s=wqo)
mutual
def qv9:Tree->Prop
 |.node k s n _ ks=>okW k s n/\qxQ ks
def qxQ:List Tree->Prop
 |[]=>True
 |k::ks=>qv9 k/\qxQ ks
end
def GT (t:Tok):Prop:=(t.kind=1->qj2 t.text=true)/\(t.kind=3->0<=t.num/\t.num<=1099511627776)
def AG (ts:List Tok):Prop:=∀t∈ts,GT t
theorem AG.tail {ts:List Tok}(h:AG ts):AG ts.tail:=fun t ht=>h t (List.mem_of_mem_tail ht)
theorem AG.hd {ts:List Tok}(h:AG ts):GT (hd ts):=by
 cases ts with|nil=>{exact⟨fun e=>absurd e (by decide),fun e=>absurd e (by decide)⟩}|cons t l=>{exact h t (List.mem_cons_self ..)}
def Okr {α:Type}(r:PR α)(Q:α->Prop):Prop:=∀x ts',r=.ok (x,ts')->Q x/\AG ts'
namespace Okr
variable {α β:Type}{Q:β->Prop}
theorem bnd {P:α->Prop}{r:PR α}{f:α->List Tok->PR β}(h:Okr r P)(k:∀a ts,P a->AG ts->Okr (f a ts) Q):Okr (Lg.bnd r f) Q:=by
 intro x ts' e;obtain⟨a,ts1,e1,e2⟩:=qzs e;obtain⟨h1,h2⟩:=h _ _ e1;exact k a ts1 h1 h2 _ _ e2
theorem ret {x:β}{ts:List Tok}(h:Q x)(hg:AG ts):Okr (.ok (x,ts)) Q:=by
 intro y ts' e;obtain⟨rfl,rfl⟩:=qzG e;exact⟨h,hg⟩
theorem err {e:Int×Int}:Okr (.error e) Q:=by intro y ts' h;cases h
theorem flt {e:Int}{ts:List Tok}:Okr (Lg.flt e ts) Q:=err
theorem ite {c:Prop}[Decidable c] {a b:PR β}(h1:c->Okr a Q)(h2:¬c->Okr b Q):Okr (if c then a else b) Q:=by
 split;exact h1 ‹_›;exact h2 ‹_›
theorem mono {P Q:β->Prop}{r:PR β}(h:Okr r P)(k:∀a,P a->Q a):Okr r Q:=fun x ts' e=>⟨k x (h x ts' e).1,(h x ts' e).2⟩
end Okr
def Bd (n:Int):Prop:=n<=1099511627776/\ -1099511627776<=n
theorem Bd.zero:Bd 0:=⟨by decide,by decide⟩
def IsN (x:Tree):Prop:=∃s p,x=.node 5 s 0 p []/\qj2 s=true
def IsT (x:Tree):Prop:=∃s n p,x=.node 5 s n p []/\(s=[]\/qj2 s=true)/\Bd n
theorem qqe {k:Int}{s:Bs}{n:Int}(hk:k∈qxZ)(h:qj2 s=true)(hb:Bd n):okW k s n:=by
 have:k=1\/k=3\/k=6\/k=7\/k=10\/k=11\/k=12\/k=13\/k=14\/k=19\/k=24\/k=25\/k=26\/k=27\/k=28:=by{simpa[qxZ]using hk};exact⟨by omega,by omega,hb.1,hb.2,fun _=>h,fun e=>by omega,fun e=>by omega⟩
theorem wqC {s:Bs}{n:Int}(h:s=[]\/qj2 s=true)(hb:Bd n):okW 5 s n:=
 ⟨by decide,by decide,hb.1,hb.2,fun e=>absurd e (by decide),fun _=>h,fun e=>by omega⟩
theorem zzV {k:Int}{s:Bs}{n:Int}(hk:k=4\/k=15\/k=16)(h:s=sLt\/s=sLe\/s=wqo)(hb:Bd n):okW k s n:=by
 refine⟨by omega,by omega,hb.1,hb.2,fun e=>?_,fun e=>by omega,fun _=>h⟩;have:k=1\/k=3\/k=6\/k=7\/k=10\/k=11\/k=12\/k=13\/k=14\/k=19\/k=24\/k=25\/k=26\/k=27\/k=28:=by{simpa[qxZ]using e};omega
theorem qqf {k:Int}{s:Bs}{n:Int}(hk:k=0\/k=2\/k=8\/k=9\/k=17\/k=18\/k=20\/k=21\/k=22\/k=23)(hb:Bd n):okW k s n:=by
 refine⟨by omega,by omega,hb.1,hb.2,fun e=>?_,fun e=>by omega,fun e=>by omega⟩;have:k=1\/k=3\/k=6\/k=7\/k=10\/k=11\/k=12\/k=13\/k=14\/k=19\/k=24\/k=25\/k=26\/k=27\/k=28:=by{simpa[qxZ]using e};omega
theorem qzw {k:Int}{s:Bs}{n p:Int}{ks:List Tree}(h:okW k s n)(hk:qxQ ks):qv9 (.node k s n p ks):=by rw[qv9];exact⟨h,hk⟩
theorem qzx:qxQ []:=by rw[qxQ];trivial
theorem qz0 {x:Tree}{xs:List Tree}(h:qv9 x)(hs:qxQ xs):qxQ (x::xs):=by rw[qxQ];exact⟨h,hs⟩
theorem qjD {xs ys:List Tree}(h:qxQ xs)(hs:qxQ ys):qxQ (xs++ys):=by
 induction xs with|nil=>{exact hs}|cons x xs ih=>{rw[qxQ]at h;exact qz0 h.1 (ih h.2)}
theorem IsT.well {x:Tree}(h:IsT x):qv9 x:=by obtain⟨s,n,p,rfl,hs,hb⟩:=h;exact qzw (wqC hs hb) qzx
theorem IsN.term {x:Tree}(h:IsN x):IsT x:=by obtain⟨s,p,rfl,hs⟩:=h;exact⟨s,0,p,rfl,.inr hs,.zero⟩
theorem IsN.well {x:Tree}(h:IsN x):qv9 x:=h.term.well
section
variable {ts:List Tok}
theorem qqw {s:Bs}(h:AG ts):Okr (qvV s ts) fun _=>True:=.ite (fun _=>.ret trivial h.tail) fun _=>.flt
theorem qqv (h:AG ts):Okr (name ts) IsN:=by
 refine .bnd (P:=fun t=>qj2 t.text=true) (.ite (fun e=>.ret (h.hd.1 e) h.tail) fun _=>.flt) fun t ts' ht hg=>.ret ⟨_,_,rfl,ht⟩ hg
theorem qkm {sg:Int}(hs:sg=1\/sg= -1)(h:AG ts):Okr (qkT sg ts) Bd:=by
 refine .bnd (P:=fun t=>0<=t.num/\t.num<=1099511627776) (.ite (fun e=>.ret (h.hd.2 e) h.tail) fun _=>.flt) fun t ts' ht hg=>.ret ?_ hg;rcases hs with rfl|rfl;exact⟨by omega,by omega⟩;exact⟨by omega,by omega⟩
theorem wxW {n:Tree}(hn:IsN n)(h:AG ts):Okr (more n ts) IsT:=by
 obtain⟨s,p,rfl,hs⟩:=hn;refine .ite (fun _=>.bnd (qkm (.inl rfl) h.tail) fun v ts' hv hg=>.ret ⟨s,v,p,rfl,.inr hs,hv⟩ hg) fun _=>?_;refine .ite (fun _=>.bnd (qkm (.inr rfl) h.tail) fun v ts' hv hg=>.ret ⟨s,v,p,rfl,.inr hs,hv⟩ hg) fun _=>?_;exact .ret ⟨s,0,p,rfl,.inr hs,.zero⟩ h
theorem qky (h:AG ts):Okr (term ts) IsT:=by
 refine .ite (fun _=>.bnd (qkm (.inl rfl) h) fun v ts' hv hg=>.ret ⟨[],v,_,rfl,.inl rfl,hv⟩ hg) fun _=>?_;refine .ite (fun _=>.bnd (qkm (.inr rfl) h.tail) fun v ts' hv hg=>.ret ⟨[],v,_,rfl,.inl rfl,hv⟩ hg) fun _=>?_;exact .bnd (qqv h) fun n ts' hn hg=>wxW hn hg
theorem yx6 (h:AG ts):Okr (cmp ts) fun s=>s=sLt\/s=sLe\/s=wqo:=
 .ite (fun _=>.ret (.inl rfl) h.tail) fun _=>.ite (fun _=>.ret (.inr (.inl rfl)) h.tail) fun _=>.ite (fun _=>.ret (.inr (.inr rfl)) h.tail) fun _=>.flt
def IsF (x:Tree):Prop:=∃op p ks,x=.node 4 op 0 p ks/\(op=sLt\/op=sLe\/op=wqo)/\qxQ ks
theorem IsF.well {x:Tree}(h:IsF x):qv9 x:=by obtain⟨s,p,ks,rfl,hs,hk⟩:=h;exact qzw (zzV (.inl rfl) hs .zero) hk
theorem wjl (h:AG ts):Okr (fact ts) IsF:=
 .bnd (qky h) fun a ts1 ha h1=>.bnd (yx6 h1) fun op ts2 ho h2=>.bnd (qky h2) fun b ts3 hb h3=>.ret ⟨_,_,_,rfl,ho,qz0 ha.well (qz0 hb.well qzx)⟩ h3
end
theorem zzs {one:List Tok->PR Tree}(ho:∀ts,AG ts->Okr (one ts) qv9):∀(n:Nat) (ts:List Tok),ts.length<=n->AG ts->Okr (qq2 one ts) qxQ
 |n,ts,hn,h=>by
  rw[qq2];refine .ite (fun _=>?_) fun _=>.ret qzx h;cases e:one ts.tail with|error _=>{exact .err}|ok p=>{obtain⟨x,ts'⟩:=p;obtain⟨h1,h2⟩:=ho _ h.tail _ _ e;refine .ite (fun hl=>?_) fun _=>.err;match n,hn with|0,hn=>{omega}|n+1,hn=>{exact .bnd (zzs ho n ts' (by omega) h2) fun xs ts'' hx hg=>.ret (qz0 h1 hx) hg}}
theorem zkk {one:List Tok->PR Tree}(ho:∀ts,AG ts->Okr (one ts) qv9){ts:List Tok}(h:AG ts):Okr (wqR one ts) qxQ:=
 .bnd (ho _ h) fun x ts1 hx h1=>.bnd (zzs ho _ _ (Nat.le_refl _) h1) fun xs ts2 hxs h2=>.ret (qz0 hx hxs) h2
section
variable {ts:List Tok}
theorem wz6 (h:AG ts):Okr (args ts) qxQ:=
 .bnd (qqw h) fun _ ts1 _ h1=>.ite (fun _=>.ret qzx h1.tail) fun _=>
  .bnd (zkk (fun ts h=>(qky h).mono fun _ h=>h.well) h1) fun xs ts2 hx h2=>.bnd (qqw h2) fun _ ts3 _ h3=>.ret hx h3
theorem yzE (h:AG ts):Okr (sort ts) qv9:=
 .ite (fun _=>.ret (qzw (qqf (by decide) .zero) qzx) h.tail) fun _=>
 .ite (fun _=>.ret (qzw (qqf (by decide) .zero) qzx) h.tail) fun _=>
 .ite (fun _=>.bnd (qqv h.tail) fun k ts' hk hg=>.ret (qzw (qqf (by decide) .zero) (qz0 hk.well qzx)) hg) fun _=>.flt
theorem wvy (h:AG ts):Okr (field ts) qv9:=by
 refine .bnd (qqv h) fun n ts1 hn h1=>?_;obtain⟨s,p,rfl,hs⟩:=hn;exact .ite (fun _=>.bnd (qqv h1.tail) fun k ts2 hk h2=>.bnd (qqw h2) fun _ ts3 _ h3=>.ret (qzw (qqe (by decide) hs .zero) (qz0 hk.well qzx)) h3) fun _=>.ret (qzw (qqe (by decide) hs .zero) qzx) h1
theorem zza {s:Bs}{p:Int}{ks:List Tree}(hs:qj2 s=true)(hk:qxQ ks)(h:AG ts):Okr (qqI (.node 1 s 0 p ks) ts) qv9:=
 .ite (fun _=>.bnd (zkk (fun ts h=>(wjl h).mono fun _ h=>h.well) h.tail) fun fs ts1 hf h1=>.bnd (qqw h1) fun _ ts2 _ h2=>
  .ret (qzw (qqe (by decide) hs .zero) (qjD hk hf)) h2) fun _=>
 .bnd (qqw h) fun _ ts2 _ h2=>.ret (qzw (qqe (by decide) hs .zero) hk) h2
theorem jqp {at_:Int}(h:AG ts):Okr (typ at_ ts) qv9:=by
 refine .bnd (qqv h) fun n ts1 hn h1=>.bnd (yzE h1) fun s ts2 hsr h2=>?_;obtain⟨s,p,rfl,hs⟩:=hn;exact .ite (fun _=>.bnd (zkk (fun ts h=>wvy h) h2.tail) fun fs ts3 hf h3=>.bnd (qqw h3) fun _ ts4 _ h4=>zza hs (qz0 hsr hf) h4) fun _=>zza hs (qz0 hsr qzx) h2
theorem wxX (h:AG ts):Okr (mode ts) qv9:=
 .ite (fun _=>.ret (qzw (qqf (by decide) .zero) qzx) h.tail) fun _=>
 .ite (fun _=>.bnd (qqv h.tail) fun k ts' hk hg=>.ret (qzw (qqf (by decide) .zero) (qz0 hk.well qzx)) hg) fun _=>
 .bnd (qqw h) fun _ ts1 _ h1=>
  .ite (fun _=>.bnd (qqv h1.tail) fun k ts' hk hg=>.ret (qzw (qqf (by decide) .zero) (qz0 hk.well qzx)) hg) fun _=>
  .bnd (qqv h1) fun k ts' hk hg=>.ret (qzw (qqf (by decide) .zero) (qz0 hk.well qzx)) hg
theorem wk4 (h:AG ts):Okr (zww ts) qv9:=by
 refine .bnd (qqv h) fun n ts1 hn h1=>.bnd (qqw h1) fun _ ts2 _ h2=>.bnd (wxX h2) fun m ts3 hm h3=>?_;obtain⟨s,p,rfl,hs⟩:=hn;exact .ret (qzw (qqe (by decide) hs .zero) (qz0 hm qzx)) h3
theorem qjY {n:Tree}(hn:qv9 n)(h:AG ts):Okr (qwC n ts) qv9:=.bnd (qqw h) fun _ ts1 _ h1=>.ret hn h1
theorem zka {k:Int}(hk:k∈qxZ)(h:AG ts):Okr (zxh k ts) fun x=>∃s n p,x=.node k s n p []/\qj2 s=true/\Bd n:=by
 refine .bnd (qqv h) fun n ts1 hn h1=>.bnd (qqw h1) fun _ ts2 _ h2=>.bnd (qkm (.inl rfl) h2) fun v ts3 hv h3=>.bnd (qqw h3) fun _ ts4 _ h4=>?_;obtain⟨s,p,rfl,hs⟩:=hn;exact .ret ⟨s,v,p,rfl,hs,hv⟩ h4
theorem yx3 (h:AG ts):Okr (ww3 ts) qv9:=by
 refine .ite (fun _=>.bnd (qkm (.inl rfl) h.tail) fun v ts' hv hg=>.ret (qzw (qqf (by decide) hv) qzx) hg) fun _=>?_;refine .ite (fun _=>.bnd (qqv h.tail) fun k ts' hk hg=>?_) fun _=>?_;{obtain⟨s,p,rfl,hs⟩:=hk;exact .ret (qzw (qqe (by decide) hs .zero) qzx) hg};refine .ite (fun _=>.ite (fun _=>.bnd (qqv h.tail.tail) fun k ts' hk hg=>?_) fun _=>.bnd (qqv h.tail) fun k ts' hk hg=>?_) fun _=>?_;{obtain⟨s,p,rfl,hs⟩:=hk;exact .ret (qzw (qqe (by decide) hs .zero) qzx) hg};{obtain⟨s,p,rfl,hs⟩:=hk;exact .ret (qzw (qqe (by decide) hs .zero) qzx) hg};refine .ite (fun _=>(qky h).mono fun _ h=>h.well) fun _=>.bnd (qqv h) fun n ts1 hn h1=>?_;have hn':=hn;obtain⟨s,p,rfl,hs⟩:=hn;refine .ite (fun _=>.bnd (wz6 h1) fun xs ts2 hx h2=>.ret (qzw (qqe (by decide) hs .zero) hx) h2) fun _=>?_;refine .ite (fun _=>.bnd (qky h1.tail) fun k ts2 hk h2=>.bnd (qqw h2) fun _ ts3 _ h3=>.ret (qzw (qqe (by decide) hs .zero) (qz0 hk.well qzx)) h3) fun _=>?_;refine .ite (fun _=>.bnd (qqv h1.tail) fun k ts2 hk h2=>.ret (qzw (qqf (by decide) .zero) (qz0 hn'.well (qz0 hk.well qzx))) h2) fun _=>?_;refine .ite (fun _=>.bnd (qqv h1.tail) fun k ts2 hk h2=>.ret (qzw (qqf (by decide) .zero) (qz0 hn'.well (qz0 hk.well qzx))) h2) fun _=>?_;exact(wxW hn' h1).mono fun _ h=>h.well
theorem wkH {n:Tree}(hn:IsN n)(h:AG ts):Okr (zvg n ts) qv9:=by
 obtain⟨s,p,rfl,hs⟩:=hn;refine .ite (fun _=>.bnd (wz6 h) fun xs ts1 hx h1=>.ret (qzw (qqf (by decide) .zero) (qz0 (qzw (qqe (by decide) hs .zero) hx) qzx)) h1) fun _=>?_;refine .ite (fun _=>.bnd (qky h.tail) fun a ts1 ha h1=>.bnd (qqw h1) fun _ ts2 _ h2=>.bnd (qqw h2) fun _ ts3 _ h3=>.bnd (qky h3) fun b ts4 hb h4=>.ret (qzw (qqe (by decide) hs .zero) (qz0 ha.well (qz0 hb.well qzx))) h4) fun _=>?_;exact .bnd (qqw h) fun _ ts1 _ h1=>.bnd (yx3 h1) fun x ts2 hx h2=>.ret (qzw (qqe (by decide) hs .zero) (qz0 hx qzx)) h2
variable {block:List Tok->PR Tree}(hb:∀ts,AG ts->Okr (block ts) qv9)
include hb
theorem zkF {k at_:Int}(hk:k=15\/k=16)(h:AG ts):Okr (zz7 block k at_ ts) fun x=>∃s p ks,x=.node k s 0 p ks/\(s=sLt\/s=sLe\/s=wqo)/\qxQ ks:=by
 refine .bnd (wjl h) fun n ts1 hn h1=>.bnd (hb _ h1) fun b ts2 hbl h2=>?_;obtain⟨s,p,ks,rfl,hs,hks⟩:=hn;exact .ret ⟨s,at_,ks++[b],rfl,hs,qjD hks (qz0 hbl qzx)⟩ h2
theorem yz7 (h:AG ts):Okr (wwb block ts) qv9:=by
 refine .ite (fun _=>.bnd (qqv h.tail) fun n ts' hn hg=>?_) fun _=>?_;{obtain⟨s,p,rfl,hs⟩:=hn;exact qjY (qzw (qqe (by decide) hs .zero) qzx) hg};refine .ite (fun _=>.bnd (zka (by decide) h.tail) fun n ts' hn hg=>?_) fun _=>?_;{obtain⟨s,v,p,rfl,hs,hv⟩:=hn;exact qjY (qzw (qqe (by decide) hs hv) qzx) hg};refine .ite (fun _=>.bnd (zka (by decide) h.tail) fun n ts' hn hg=>?_) fun _=>?_;{obtain⟨s,v,p,rfl,hs,hv⟩:=hn;exact qjY (qzw (qqe (by decide) hs hv) qzx) hg};refine .ite (fun _=>.bnd (zkF hb (.inl rfl) h.tail) fun n ts' hn hg=>?_) fun _=>?_;{obtain⟨s,p,ks,rfl,hs,hks⟩:=hn;exact .ite (fun _=>.bnd (hb _ hg.tail) fun b ts2 hbl h2=>.ret (qzw (zzV (.inr (.inl rfl)) hs .zero) (qjD hks (qz0 hbl qzx))) h2) fun _=>.ret (qzw (zzV (.inr (.inl rfl)) hs .zero) (qjD hks (qz0 (qzw (qqf (by decide) .zero) qzx) qzx))) hg};refine .ite (fun _=>(zkF hb (.inr rfl) h.tail).mono fun x hx=>?_) fun _=>?_;{obtain⟨s,p,ks,rfl,hs,hks⟩:=hx;exact qzw (zzV (.inr (.inr rfl)) hs .zero) hks};refine .ite (fun _=>.ite (fun _=>qjY (qzw (qqf (by decide) .zero) qzx) h.tail) fun _=>.bnd (qky h.tail) fun x ts' hx hg=>qjY (qzw (qqf (by decide) .zero) (qz0 hx.well qzx)) hg) fun _=>?_;refine .ite (fun _=>qjY (qzw (qqf (by decide) .zero) qzx) h.tail) fun _=>?_;refine .ite (fun _=>.bnd (qqv h.tail) fun n ts' hn hg=>.bnd (wz6 hg) fun xs ts2 hx h2=>?_) fun _=>?_;{obtain⟨s,p,rfl,hs⟩:=hn;exact qjY (qzw (qqe (by decide) hs .zero) hx) h2};exact .bnd (qqv h) fun n ts1 hn h1=>.bnd (wkH hn h1) fun x ts2 hx h2=>qjY hx h2
end
theorem zvC {one:List Tok->PR Tree}(ho:∀ts,AG ts->Okr (one ts) qv9):∀(n:Nat) (ts:List Tok),ts.length<=n->AG ts->Okr (zqO one ts) qxQ
 |n,ts,hn,h=>by
  rw[zqO];refine .ite (fun _=>.ret qzx h.tail) fun _=>?_;cases e:one ts with|error _=>{exact .err}|ok p=>{obtain⟨x,ts'⟩:=p;obtain⟨h1,h2⟩:=ho _ h _ _ e;refine .ite (fun hl=>?_) fun _=>.err;match n,hn with|0,hn=>{omega}|n+1,hn=>{exact .bnd (zvC ho n ts' (by omega) h2) fun xs ts'' hx hg=>.ret (qz0 h1 hx) hg}}
theorem wz1:∀(n:Nat) (ts:List Tok),AG ts->Okr (block n ts) qv9
 |0,ts,h=>.ite (fun _=>.flt) fun _=>.flt
 |n+1,ts,h=>.bnd (qqw h) fun _ ts1 _ h1=>.bnd (zvC (fun ts h=>yz7 (wz1 n) h) _ _ (Nat.le_refl _) h1) fun xs ts2 hx h2=>.ret (qzw (qqf (by decide) .zero) hx) h2
theorem kx1 {at_:Int}{ts:List Tok}(h:AG ts):Okr (fn at_ ts) qv9:=by
 refine .bnd (qqv h) fun n ts1 hn h1=>.bnd (P:=qxQ) ?_ fun ps ts2 hp h2=>.bnd (P:=qv9) ?_ fun r ts3 hr h3=>.bnd (wz1 8 _ h3) fun b ts4 hb h4=>?_;exact .bnd (qqw h1) fun _ ts2 _ h2=>.ite (fun _=>.ret qzx h2.tail) fun _=>.bnd (zkk (fun ts h=>wk4 h) h2) fun xs ts3 hx h3=>.bnd (qqw h3) fun _ ts4 _ h4=>.ret hx h4;exact .ite (fun _=>.ite (fun _=>.flt) fun _=>wxX h2.tail) fun _=>.ret (qzw (qqf (by decide) .zero) qzx) h2;{obtain⟨s,p,rfl,hs⟩:=hn;exact .ret (qzw (qqe (by decide) hs .zero) (qjD hp (qz0 hr (qz0 hb qzx)))) h4}
theorem yxa {ts:List Tok}(h:AG ts):Okr (zko ts) qv9:=
 .ite (fun _=>kx1 h.tail) fun _=>.bnd (qqw h) fun _ ts1 _ h1=>jqp h1
theorem zwU:∀(n:Nat) (ts:List Tok),ts.length<=n->AG ts->Okr (qw1 ts) qxQ
 |n,ts,hn,h=>by
  rw[qw1];refine .ite (fun _=>.ret qzx h) fun _=>?_;cases e:zko ts with|error _=>{exact .err}|ok p=>{obtain⟨x,ts'⟩:=p;obtain⟨h1,h2⟩:=yxa h _ _ e;refine .ite (fun hl=>?_) fun _=>.err;match n,hn with|0,hn=>{omega}|n+1,hn=>{exact .bnd (zwU n ts' (by omega) h2) fun xs ts'' hx hg=>.ret (qz0 h1 hx) hg}}
theorem wx9 (p:UInt8->Bool):∀l:Bs,(l.takeWhile p).all p=true
 |[]=>rfl
 |x::l=>by
  rw[List.takeWhile_cons];split;{rename_i h;rw[List.all_cons,h,wx9 p l];rfl};rfl
theorem wqI {b:UInt8}{r:Bs}(hl:qvb b=true)(h16:¬16<((b::r).takeWhile qqr).length)(hk:wxa ((b::r).takeWhile qqr)=false):qj2 ((b::r).takeWhile qqr)=true:=by
 have hw:qqr b=true:=by{unfold qqr;rw[hl];rfl};have ha:=wx9 qqr (b::r);have e:(b::r).takeWhile qqr=b::r.takeWhile qqr:=by{rw[List.takeWhile_cons,if_pos hw]};unfold qj2;rw[hk,ha,e];rw[e]at h16;rw[show zqk (b::r.takeWhile qqr)=qvb b from rfl,hl,decide_eq_true (by omega:(b::r.takeWhile qqr).length<=16)];rfl
theorem wzM {p:Int}{l:Bs}{t:Tok}(h:wjA p l=.ok t):GT t:=by
 unfold wjA at h;split at h;{cases h};{rename_i b r;split at h;{split at h;{cases h};{rename_i h1;cases h;simp only[Bool.or_eq_true,decide_eq_true_eq,not_or]at h1;obtain⟨⟨h1,_⟩,_⟩:=h1;refine⟨fun e=>absurd e (by decide:(3:Int)≠1),fun _=>?_⟩;show 0<=((dec _:Nat):Int)/\((dec _:Nat):Int)<=1099511627776;omega}};{split at h;{rename_i hl;split at h;{cases h};{rename_i h16;cases h;cases hk:wxa ((b::r).takeWhile qqr)with|true=>{exact⟨fun e=>absurd e (by simp),fun e=>absurd e (by simp)⟩}|false=>{exact⟨fun _=>wqI hl h16 hk,fun e=>absurd e (by simp)⟩}}};{split at h;{cases h};{cases h;exact⟨fun e=>absurd e (by decide:(4:Int)≠1),fun e=>absurd e (by decide:(4:Int)≠3)⟩}}}}
theorem zxo:∀(n:Nat) (p:Int) (l:Bs),l.length<=n->∀ts,lex p l=.ok ts->AG ts
 |n,p,[],_,ts,h=>by
  rw[lex]at h;cases h;intro t ht;rw[List.mem_singleton]at ht;subst ht;exact⟨fun e=>absurd e (by decide:(0:Int)≠1),fun e=>absurd e (by decide:(0:Int)≠3)⟩
 |0,p,b::r,hn,ts,h=>by simp at hn
 |n+1,p,b::r,hn,ts,h=>by
  simp only[lB]at hn;rw[lex]at h;split at h;exact zxo n _ r (by omega) ts h;{split at h;{have:=qjZ (· != 10) r;exact zxo n _ _ (by omega) ts h};{split at h;{cases h};{rename_i t ht;split at h;{cases h};{rename_i ts' hts;cases h;have:=zxo n _ _ (by rw[List.length_drop];omega) ts' hts;intro u hu;rcases List.mem_cons.1 hu with rfl|hu;exact wzM ht;exact this u hu}}}}
theorem zkZ {l:Bs}{t:Tree}(h:qwW l=.ok t):qv9 t/\size t<=4096:=by
 unfold qwW at h;split at h;{cases h};{rename_i ts hts;have hg:AG ts:=by{unfold jqv at hts;split at hts;{cases hts};exact zxo _ _ _ (Nat.le_refl _) ts hts};unfold qjP at h;split at h;{cases h};{rename_i ks ts' hks;split at h;{cases h};{rename_i hsz;cases h;exact⟨qzw (qqf (by decide) .zero) (zwU _ _ (Nat.le_refl _) hg _ _ hks).1,by omega⟩}}}
structure Ty where
 name:Bs
 sort:Int
 of:Int
 fields:List (Bs×Int)
 facts:List (Int×Int×Int)
def qvc {α:Type}(p:α->Bool):List α->Nat->Int
 |[],_=> -1
 |x::xs,i=>if p x then i else qvc p xs (i+1)
theorem qx0 {α:Type}(p:α->Bool):∀(l:List α) (i:Nat),qvc p l i= -1\/(i:Int)<=qvc p l i/\qvc p l i<i+l.length
 |[],i=>.inl rfl
 |x::xs,i=>by
  unfold qvc;split;{right;simp;omega};{rcases qx0 p xs (i+1)with h|⟨h1,h2⟩;exact .inl h;{right;simp only[lB];omega}}
theorem zku {α:Type}(p:α->Bool):∀(l:List α) (i j:Nat) (h:qvc p l i=(i+j:Nat)),∃hj:j<l.length,p l[j]=true
 |[],i,j,h=>by unfold qvc at h;omega
 |x::xs,i,j,h=>by
  unfold qvc at h;split at h;{rename_i hp;have:j=0:=by{omega};subst this;exact⟨by simp,hp⟩};{cases j with|zero=>{rcases qx0 p xs (i+1)with h'|⟨h1,h2⟩<;>omega}|succ j=>{obtain⟨h1,h2⟩:=zku p xs (i+1) j (by rw[h];congr 1;omega);exact⟨by simp;omega,h2⟩}}
theorem wxc {α:Type}(p:α->Bool):∀(l:List α) (i:Nat),decide (0<=qvc p l i)=l.any p
 |[],i=>rfl
 |x::xs,i=>by
  unfold qvc;cases h:p x with|true=>{simp[h]}|false=>{rw[if_neg (by simp)];rw[wxc p xs (i+1)];simp[h]}
def qje (t:List Ty)(s:Bs):Int:=qvc (fun x=>x.name==s) t 0
def qwt (s:Bs)(l:List Tree):Int:=qvc (fun n=>n.text==s&&n.kids.isEmpty) l 0
def yqB (l:List Tree)(s:Bs):Bool:=l.any fun n=>n.text==s
def sorts:List Bs:=[zvR,wqp,zzQ,wql,zvT]
def qqy (s:Bs):Int:=qvc (fun x=>x==s) sorts 0
def yvX (w:Int->Int)(op:Bs)(a b k l:Int):List (Int×Int×Int):=
 if op=sLt then [(a,b,w (w (l-k)-1))]
 else if op=sLe then [(a,b,w (l-k))]
 else if op=wqo then [(a,b,w (l-k)),(b,a,w (k-l))]
 else []
def qkB (k:Tree):Bool:=k.kind==3
def zvi (k:Tree):Bool:=k.kind==4
def qj7 (n:Tree):Tree:=n.kids.headD (.node 0 [] 0 0 [])
def yvy (n:Tree):Tree:=n.kids.tail.headD (.node 0 [] 0 0 [])
abbrev SR (α:Type):=Except (Int×Int) α
def zxE {α β:Type}(x:SR α)(f:α->SR β):SR β:=match x with
 |.error e=>.error e
 |.ok a=>f a
def fieldAt (own:Bool)(all:List Tree)(i:Nat)(f:Tree):SR (Bs×Int):=
 if yqB (all.take i) f.text then .error (f.pos,30)
 else if f.kids.isEmpty then .ok (f.text, -1)
 else if own&&decide (0<=qwt (qj7 f).text all)then .ok (f.text,qwt (qj7 f).text all)
 else .error (f.pos,32)
def qv3 (own:Bool)(all:List Tree):Nat->List Tree->SR (List (Bs×Int))
 |_,[]=>.ok []
 |i,f::fs=>zxE (fieldAt own all i f) fun x=>zxE (qv3 own all (i+1) fs) fun xs=>.ok (x::xs)
def wqa (t:List Ty)(s:Tree)(fl fc:List Tree):SR (Int×Int):=
 if qqy s.text=2\/qqy s.text=3 then
  if 0<=qwt (qj7 s).text fl then .ok (qqy s.text,qwt (qj7 s).text fl)else .error (s.pos,32)
 else if qqy s.text=4 then
  if 0<=qje t (qj7 s).text/\(t[(qje t (qj7 s).text).toNat]?).map Ty.sort=some 3 then
   if fl.length+fc.length=0 then .ok (4,qje t (qj7 s).text)else .error (s.pos,32)
  else .error (s.pos,31)
 else .ok (qqy s.text,0)
def zqt (k o:Int)(fl:List Tree)(n x:Tree):SR Int:=
 if x.text=[]then .ok 0
 else if 0<=qwt x.text fl/\¬((k=2\/k=3)/\qwt x.text fl=o)then .ok (qwt x.text fl+1)
 else .error (n.pos,33)
def wv1 (k o:Int)(fl:List Tree)(n:Tree):SR (List (Int×Int×Int)):=
 zxE (zqt k o fl n (qj7 n)) fun a=>zxE (zqt k o fl n (yvy n)) fun b=>.ok (yvX id n.text a b (qj7 n).num (yvy n).num)
def qvH (k o:Int)(fl:List Tree):List Tree->SR (List (Int×Int×Int))
 |[]=>.ok []
 |n::ns=>zxE (wv1 k o fl n) fun xs=>zxE (qvH k o fl ns) fun ys=>.ok (xs++ys)
def wvV (t:List Ty)(n:Tree):SR Ty:=
 if 0<=qje t n.text then .error (n.pos,30)
 else if 8<(n.kids.filter qkB).length then .error (n.pos,22)
 else zxE (qv3 ((qj7 n).text==zvR) (n.kids.filter qkB) 0 (n.kids.filter qkB)) fun fs=>
  zxE (wqa t (qj7 n) (n.kids.filter qkB) (n.kids.filter zvi)) fun so=>
   zxE (qvH so.1 so.2 (n.kids.filter qkB) (n.kids.filter zvi)) fun xs=>.ok ⟨n.text,so.1,so.2,fs,xs⟩
def qxC (t:List Ty):List Tree->SR (List Ty)
 |[]=>.ok t
 |n::ns=>if n.kind=1 then zxE (wvV t n) fun x=>qxC (t++[x]) ns else qxC t ns
def kkc (s:Tree):Prop:=qqy s.text=2\/qqy s.text=3\/qqy s.text=4->s.kids≠[]
def jqc (n:Tree):Prop:=∃a b,n.kids=[a,b]/\Bd a.num/\Bd b.num
def wjv (n:Tree):Prop:=(∃s r,n.kids=s::r/\kkc s)/\∀k∈n.kids,k.kind=4->jqc k
def kj2 (n:Tree):Prop:=∀k∈n.kids,k.kind=1->wjv k
section
variable {ts:List Tok}
theorem yzF (h:AG ts):Okr (sort ts) fun s=>s.kind=2/\kkc s:=by
 unfold sort;refine .ite (fun h1=>.ret ⟨rfl,fun e=>?_⟩ h.tail) fun _=>.ite (fun h1=>.ret ⟨rfl,fun e=>?_⟩ h.tail) fun _=>.ite (fun _=>.bnd (qqv h.tail) fun k ts1 _ hg=>.ret ⟨rfl,fun _=>by simp[Tree.kids]⟩ hg) fun _=>.flt;{have h2:(hd ts).text=zvR:=by{simp only[isT,Bool.and_eq_true,beq_iff_eq]at h1;exact h1.2};simp only[Tree.text,h2]at e;exact absurd e (by decide)};{have h2:(hd ts).text=wqp:=by{simp only[isT,Bool.and_eq_true,beq_iff_eq]at h1;exact h1.2};simp only[Tree.text,h2]at e;exact absurd e (by decide)}
theorem zv7 {x:Tree}(h:IsT x):Bd x.num:=by obtain⟨s,n,p,rfl,_,hb⟩:=h;exact hb
theorem yx0 (h:AG ts):Okr (fact ts) fun n=>n.kind=4/\jqc n:=
 .bnd (qky h) fun a ts1 ha h1=>.bnd (yx6 h1) fun op ts2 _ h2=>.bnd (qky h2) fun b ts3 hb h3=>.ret ⟨rfl,a,b,rfl,zv7 ha,zv7 hb⟩ h3
theorem wvz (h:AG ts):Okr (field ts) fun n=>n.kind=3:=by
 unfold field;refine .bnd (qqv h) fun n ts1 hn h1=>?_;obtain⟨s,p,rfl,_⟩:=hn;exact .ite (fun _=>.bnd (qqv h1.tail) fun k ts2 _ h2=>.bnd (qqw h2) fun _ ts3 _ h3=>.ret rfl h3) fun _=>.ret rfl h1
theorem zvh {P:Tree->Prop}{one:List Tok->PR Tree}(ho:∀ts,AG ts->Okr (one ts) P):∀(n:Nat) (ts:List Tok),ts.length<=n->AG ts->Okr (qq2 one ts) fun xs=>∀x∈xs,P x:=by
 intro n;induction n with|zero=>{intro ts hl hg;have:ts=[]:=List.eq_nil_of_length_eq_zero (by omega);subst this;unfold qq2;rw[if_neg (by decide)];exact .ret (by simp) hg}|succ n ih=>{intro ts hl hg;unfold qq2;refine .ite (fun _=>?_) fun _=>.ret (by simp) hg;have h1:=ho _ hg.tail;cases e:one ts.tail with|error q=>{exact .err}|ok q=>{obtain⟨x,ts'⟩:=q;obtain⟨hx,hg'⟩:=h1 _ _ e;simp only;refine .ite (fun hlt=>.bnd (ih ts' (by omega) hg') fun xs ts2 hxs h2=>.ret ?_ h2) fun _=>.err;intro y hy;cases hy with|head=>{exact hx}|tail _ hy=>{exact hxs y hy}}}
theorem wxZ {P:Tree->Prop}{one:List Tok->PR Tree}(ho:∀ts,AG ts->Okr (one ts) P)(h:AG ts):Okr (wqR one ts) fun xs=>∀x∈xs,P x:=
 .bnd (ho _ h) fun x ts1 hx h1=>.bnd (zvh ho _ ts1 (Nat.le_refl _) h1) fun xs ts2 hxs h2=>.ret (by
  intro y hy;cases hy with|head=>{exact hx}|tail _ hy=>exact hxs y hy) h2
theorem zzb {s:Bs}{p:Int}{ks:List Tree}(hk:wjv (.node 1 s 0 p ks))(h:AG ts):Okr (qqI (.node 1 s 0 p ks) ts) fun n=>n.kind=1/\wjv n:=by
 unfold qqI;refine .ite (fun _=>.bnd (wxZ (P:=fun n=>n.kind=4/\jqc n) (fun _ h=>yx0 h) h.tail) fun fs ts1 hfs h1=>.bnd (qqw h1) fun _ ts2 _ h2=>.ret ⟨rfl,?_⟩ h2) fun _=>.bnd (qqw h) fun _ ts2 _ h2=>.ret ⟨rfl,hk⟩ h2;obtain⟨⟨so,r,e,hso⟩,hf⟩:=hk;simp only[Tree.kids]at e;subst e;refine⟨⟨so,r++fs,rfl,hso⟩,fun k hk h4=>?_⟩;have hk:k∈(so::r)++fs:=hk;rcases List.mem_append.1 hk with hk|hk;exact hf k hk h4;exact(hfs k hk).2
theorem jqq {at_:Int}(h:AG ts):Okr (typ at_ ts) fun n=>n.kind=1/\wjv n:=by
 unfold typ;refine .bnd (qqv h) fun n ts1 _ h1=>.bnd (yzF h1) fun s ts2 hs h2=>.ite (fun _=>.bnd (wxZ (P:=fun n=>n.kind=3) (fun _ h=>wvz h) h2.tail) fun fs ts3 hfs h3=>.bnd (qqw h3) fun _ ts4 _ h4=>zzb ?_ h4) fun _=>zzb ?_ h2;{refine⟨⟨s,fs,rfl,hs.2⟩,fun k hk h4=>?_⟩;have hk:k∈s::fs:=hk;cases hk with|head=>{have:=hs.1;omega}|tail _ hk=>{have:=hfs k hk;omega}};{refine⟨⟨s,[],rfl,hs.2⟩,fun k hk h4=>?_⟩;have hk:k∈[s]:=hk;simp only[List.mem_singleton]at hk;subst hk;have:=hs.1;omega}
theorem kkP {at_:Int}(h:AG ts):Okr (fn at_ ts) fun n=>n.kind=6:=by
 have hw:=kx1 (at_:=at_) h;intro x ts' e;refine⟨?_,(hw x ts' e).2⟩;unfold fn at e;obtain⟨_,_,_,e⟩:=qzs e;obtain⟨_,_,_,e⟩:=qzs e;obtain⟨_,_,_,e⟩:=qzs e;obtain⟨_,_,_,e⟩:=qzs e;obtain⟨rfl,rfl⟩:=qzG e;rfl
theorem yxc (h:AG ts):Okr (zko ts) fun n=>n.kind=1->wjv n:=by
 unfold zko;refine .ite (fun _=>(kkP h.tail).mono fun n hn e=>?_) fun _=>.bnd (qqw h) fun _ ts1 _ h1=>(jqq h1).mono fun n hn _=>hn.2;rw[hn]at e;exact absurd e (by decide)
end
theorem wvg:∀(n:Nat) (ts:List Tok),ts.length<=n->AG ts->Okr (qw1 ts) fun xs=>∀x∈xs,x.kind=1->wjv x:=by
 intro n;induction n with|zero=>{intro ts hl hg;have:ts=[]:=List.eq_nil_of_length_eq_zero (by omega);subst this;unfold qw1;rw[if_pos (by decide)];exact .ret (by simp) hg}|succ n ih=>{intro ts hl hg;unfold qw1;refine .ite (fun _=>.ret (by simp) hg) fun _=>?_;have h1:=yxc hg;cases e:zko ts with|error q=>{exact .err}|ok q=>{obtain⟨x,ts'⟩:=q;obtain⟨hx,hg'⟩:=h1 _ _ e;simp only;refine .ite (fun hlt=>.bnd (ih ts' (by omega) hg') fun xs ts2 hxs h2=>.ret ?_ h2) fun _=>.err;intro y hy;cases hy with|head=>{exact hx}|tail _ hy=>{exact hxs y hy}}}
theorem zva {l:Bs}{t:Tree}(h:qwW l=.ok t):kj2 t:=by
 unfold qwW at h;split at h;{cases h};{rename_i ts e;unfold qjP at h;have hg:AG ts:=by{unfold jqv at e;split at e;{cases e};exact zxo _ _ _ (Nat.le_refl _) ts e};split at h;{cases h};{rename_i ks ts' e2;obtain⟨h1,_⟩:=wvg _ ts (Nat.le_refl _) hg _ _ e2;split at h;{cases h};{simp only[Except.ok.injEq]at h;subst h;exact h1}}}
structure Sym where
 kind:Int
 var:Int
 k:Int
 block:Int
deriving DecidableEq
structure Chk where
 origin:Int
 typ:Int
 at_:Int
 live:Bool
 held:Bool
 array:Bool
 size:Sym
 cells:List Sym
structure Hp where
 chunks:List Chk
 vars:Int
 facts:List (Int×Int×Int)
def qjC:Sym:=⟨0,0,0,0⟩
def zxH (v:Int):Sym:=⟨1,v,0,0⟩
abbrev HR (α:Type):=Except Int α
def zkw {α β:Type}(x:HR α)(f:α->HR β):HR β:=match x with
 |.error e=>.error e
 |.ok a=>f a
def Hp.assume (h:Hp)(fs:List (Int×Int×Int)):HR Hp:=if 768<h.facts.length+fs.length then .error 22 else .ok {h with facts:=h.facts++fs}
def Hp.fresh (h:Hp):HR (Sym×Hp):=
 if 96<=h.vars then .error 22
 else zkw (h.assume [(h.vars,0,1099511627776),(0,h.vars,1099511627776)]) fun h'=>.ok (zxH h.vars,{h' with vars:=h.vars+1})
def Hp.put (h:Hp)(c:Chk):Sym×Hp:=(⟨2,0,0,h.chunks.length⟩,{h with chunks:=h.chunks++[c]})
def wjL (cells:List Sym)(v:Int):Int×Int:=
 if v=0 then(0,0)else match cells[(v-1).toNat]? with
 |some s=>if s.kind=1 then(s.var,s.k)else(0,0)
 |none=>(0,0)
def jxn (facts:List (Int×Int×Int))(cells:List Sym):List (Int×Int×Int):=
 facts.map fun f=>((wjL cells f.1).1,(wjL cells f.2.1).1,f.2.2-(wjL cells f.1).2+(wjL cells f.2.1).2)
def qqX (mode sort:Int):Int:=
 if sort=0 then(if mode=2 then 1 else if mode=3 then 3 else if mode=4 then 2 else 0)
 else if sort=1 then(if mode=2 then 1 else 4)
 else if sort=2 then 5
 else 6
def qjj (out:Int):Nat->List (Bs×Int)->Hp->HR (List Sym×Hp)
 |_,[],h=>.ok ([],h)
 |i,f::fs,h=>
  if f.2<0/\¬(i:Int)=out then zkw h.fresh fun p=>zkw (qjj out (i+1) fs p.2) fun q=>.ok (p.1::q.1,q.2)
  else zkw (qjj out (i+1) fs h) fun q=>.ok (qjC::q.1,q.2)
def setCell (h:Hp)(b:Nat)(i:Nat)(s:Sym):Hp:=match h.chunks[b]? with
 |some c=>{h with chunks:=h.chunks.set b {c with cells:=c.cells.set i s}}
 |none=>h
def cellAt (h:Hp)(b:Nat)(i:Int):Sym:=((h.chunks[b]?.map Chk.cells).getD [])[i.toNat]?.getD qjC
def qxd (b:Nat)(kind:Int):Nat->List (Bs×Int)->Hp->HR Hp
 |_,[],h=>.ok h
 |i,f::fs,h=>
  if f.2<0 then qxd b kind (i+1) fs h
  else
   let size:=cellAt h b f.2
   let p:=h.put ⟨kind, -1, -1,true,false,true,size,[]⟩
   zkw ((setCell p.2 b i p.1).assume [(0,size.var,0),(size.var,0,256)]) fun h'=>qxd b kind (i+1) fs h'
structure Par where
 name:Bs
 mode:Int
 typ:Int
structure Sg where
 name:Bs
 params:List Par
 ret:Par
def kk4:Ty:=⟨[],0,0,[],[]⟩
def qxe (t:List Ty)(i:Int):Ty:=t[i.toNat]?.getD kk4
def zz9 (p:Par)(t:List Ty)(h:Hp):HR ((Sym×Sym)×Hp):=
 let o:=qqX p.mode (qxe t p.typ).sort
 let held:=(qxe t p.typ).sort==4
 let num:=if held then(qxe t p.typ).of else p.typ
 let ty:=qxe t num
 let at_:=if ty.sort=2\/ty.sort=3 then ty.of else -1
 if o=6/\held=false then
  let q:=h.put ⟨o,num,at_,true,held,false,qjC,List.replicate ty.fields.length qjC⟩
  .ok ((q.1,qjC),q.2)
 else
  zkw (qjj (if held then at_ else -1) 0 ty.fields h) fun c=>
  zkw (c.2.assume (jxn ty.facts c.1)) fun h1=>
  let count:=if o=5 then c.1[at_.toNat]?.getD qjC else qjC
  zkw (if o=5 then h1.assume [(0,count.var, -1)]else .ok h1) fun h2=>
  let q:=h2.put ⟨o,num,at_,true,held,false,qjC,c.1⟩
  zkw (qxd h2.chunks.length (if o=3 then 8 else 7) 0 ty.fields q.2) fun h3=>.ok ((q.1,count),h3)
structure Sta where
 heap:Hp
 vars:List (Bs×Sym)
 blocks:List Int
 counts:List Sym
def zxd (t:List Ty)(s:Sta)(p:Par):HR Sta:=
 if p.mode=1 then zkw s.heap.fresh fun q=>.ok ⟨q.2,s.vars++[(p.name,q.1)],s.blocks++[-1],s.counts++[qjC]⟩
 else zkw (zz9 p t s.heap) fun q=>.ok ⟨q.2,s.vars++[(p.name,q.1.1)],s.blocks++[q.1.1.block],s.counts++[q.1.2]⟩
def qxP (t:List Ty):List Par->Sta->HR Sta
 |[],s=>.ok s
 |p::ps,s=>zkw (zxd t s p) fun s=>qxP t ps s
def zkJ (g:Sg)(t:List Ty):HR Sta:=qxP t g.params ⟨⟨[],1,[]⟩,[],[],[]⟩
def yjG (n:Tree):Prop:=(n.text=[]\/n.text=yzT)/\n.kids=[]\/(n.text=zvR\/n.text=wjQ\/n.text=qwl)/\∃k,n.kids=[k]
def yjF (p:Tree):Prop:=∃m,p.kids=[m]/\yjG m/\m.text≠[]
def yzl (n:Tree):Prop:=∃ps r b,n.kids=ps++[r,b]/\(∀p∈ps,yjF p)/\yjG r
def Fns (n:Tree):Prop:=∀k∈n.kids,k.kind=6->yzl k
def Okf {α:Type}(r:PR α)(Q:α->Prop):Prop:=∀x ts',r=.ok (x,ts')->Q x
namespace Okf
variable {α β:Type}{Q:β->Prop}
theorem bnd {P:α->Prop}{r:PR α}{f:α->List Tok->PR β}(h:Okf r P)(k:∀a ts,P a->Okf (f a ts) Q):Okf (Lg.bnd r f) Q:=by
 intro x ts' e;cases r with|error e'=>{cases e}|ok q=>{exact k q.1 q.2 (h _ _ rfl) x ts' e}
theorem ret {x:β}{ts:List Tok}(h:Q x):Okf (.ok (x,ts)) Q:=by
 intro y ts' e;cases e;exact h
theorem err {e:Int×Int}:Okf (.error e) Q:=by intro y ts' h;cases h
theorem ite {c:Prop}[Decidable c] {a b:PR β}(h1:c->Okf a Q)(h2:Okf b Q):Okf (if c then a else b) Q:=by
 split;exact h1 (by assumption);exact h2
theorem any {r:PR β}:Okf r fun _=>True:=fun _ _ _=>trivial
end Okf
theorem qxg {s:Bs}{ts:List Tok}(h:isT s ts=true):(hd ts).text=s:=by
 simp only[isT,Bool.and_eq_true,beq_iff_eq]at h;exact h.2
theorem wxY {ts:List Tok}:Okf (mode ts) fun x=>yjG x/\x.text≠[]:=by
 unfold mode;refine .ite (fun h=>.ret ?_) (.ite (fun h=>.bnd .any fun k ts' _=>.ret ?_) ?_);{have e:=qxg h;exact⟨.inl ⟨.inr e,rfl⟩,by show(hd ts).text≠[];rw[e];decide⟩};{have e:=qxg h;exact⟨.inr ⟨.inl e,k,rfl⟩,by show(hd ts).text≠[];rw[e];decide⟩};{unfold qvV;by_cases h:isT wjQ ts=true;{rw[if_pos h];have e:=qxg h;refine .bnd .any fun _ ts1 _=>.ite (fun _=>.bnd .any fun k ts' _=>.ret ⟨.inr ⟨.inr (.inr rfl),k,rfl⟩,by show qwl≠[];decide⟩) (.bnd .any fun k ts' _=>.ret ⟨.inr ⟨.inr (.inl e),k,rfl⟩,by show(hd ts).text≠[];rw[e];decide⟩)};{rw[if_neg h];exact .err}}
theorem zwv {ts:List Tok}:Okf (zww ts) yjF:=
 .bnd .any fun n ts1 _=>.bnd .any fun _ ts2 _=>.bnd wxY fun m ts3 hm=>.ret (by
  cases n;exact⟨m,rfl,hm.1,hm.2⟩)
theorem zzt {P:Tree->Prop}{one:List Tok->PR Tree}(ho:∀ts,Okf (one ts) P):∀(n:Nat) (ts:List Tok),ts.length<=n->Okf (qq2 one ts) fun xs=>∀x∈xs,P x
 |n,ts,hn=>by
  rw[qq2];refine .ite (fun _=>?_) (.ret (by simp));cases e:one ts.tail with|error _=>{exact .err}|ok p=>{obtain⟨x,ts'⟩:=p;have h1:=ho _ _ _ e;simp only;split;{rename_i hl;match n,hn with|0,hn=>{omega}|n+1,hn=>{exact .bnd (zzt ho n ts' (by omega)) fun xs ts'' hx=>.ret (by{intro y hy;rcases List.mem_cons.1 hy with rfl|hy;exact h1;exact hx y hy})}};exact .err}
theorem zvk {ts:List Tok}:Okf (qwa ts) fun xs=>∀x∈xs,yjF x:=
 .bnd .any fun _ ts1 _=>.ite (fun _=>.ret (by simp)) (.bnd (.bnd zwv fun x ts1 hx=>.bnd (zzt (fun _=>zwv) _ _ (Nat.le_refl _)) fun xs ts2 hxs=>.ret (by
  intro y hy;rcases List.mem_cons.1 hy with rfl|hy;exact hx;exact hxs y hy)) fun xs ts2 hx=>.bnd .any fun _ ts3 _=>.ret hx)
theorem wvt {ts:List Tok}:Okf (zvj ts) yjG:=by
 refine .ite (fun _=>.ite (fun _=>.err) fun x ts' e=>(wxY x ts' e).1) (.ret (.inl ⟨.inl rfl,rfl⟩))
theorem kkQ {at_:Int}{ts:List Tok}:Okf (fn at_ ts) yzl:=
 .bnd .any fun n ts1 _=>.bnd zvk fun ps ts2 hp=>.bnd wvt fun r ts3 hr=>.bnd .any fun b ts4 _=>.ret ⟨ps,r,b,rfl,hp,hr⟩
theorem zzd {s:Bs}{p:Int}{ks:List Tree}{ts:List Tok}:Okf (qqI (.node 1 s 0 p ks) ts) fun x=>x.kind=1:=by
 refine .ite (fun _=>.bnd .any fun _ ts1 _=>.bnd .any fun _ ts2 _=>.ret rfl) (.bnd .any fun _ ts2 _=>.ret rfl)
theorem yxd {ts:List Tok}:Okf (zko ts) fun x=>x.kind=6->yzl x:=by
 refine .ite (fun _=>fun x ts' e h=>kkQ x ts' e) (.bnd .any fun _ ts1 _=>fun x ts' e h=>absurd h ?_);have:Okf (typ (hd ts).pos ts1) fun x=>x.kind=1:=.bnd .any fun n ts2 _=>.bnd .any fun s ts3 _=>.ite (fun _=>.bnd .any fun _ ts4 _=>.bnd .any fun _ ts5 _=>zzd) zzd;rw[this x ts' e];decide
theorem zwW:∀(n:Nat) (ts:List Tok),ts.length<=n->Okf (qw1 ts) fun xs=>∀x∈xs,x.kind=6->yzl x
 |n,ts,hn=>by
  rw[qw1];refine .ite (fun _=>.ret (by simp)) ?_;cases e:zko ts with|error _=>{exact .err}|ok p=>{obtain⟨x,ts'⟩:=p;have h1:=yxd _ _ e;simp only;split;{rename_i hl;match n,hn with|0,hn=>{omega}|n+1,hn=>{exact .bnd (zwW n ts' (by omega)) fun xs ts'' hx=>.ret (by{intro y hy;rcases List.mem_cons.1 hy with rfl|hy;exact h1;exact hx y hy})}};exact .err}
theorem zws {l:Bs}{t:Tree}(h:qwW l=.ok t):Fns t:=by
 unfold qwW at h;split at h;{cases h};{rename_i ts e;unfold qjP at h;split at h;{cases h};{rename_i ks ts' e2;have h1:=zwW _ ts (Nat.le_refl _) _ _ e2;split at h;{cases h};{simp only[Except.ok.injEq]at h;subst h;exact h1}}}
def jxL:List Bs:=[[],yzT,zvR,wjQ,qwl]
def qja (s:Bs):Int:=qvc (fun x=>x==s) jxL 0
def zjd (t:List Ty)(n:Tree):HR Par:=
 if n.kids.isEmpty then .ok ⟨[],qja n.text,0⟩
 else if qje t (qj7 n).text<0 then .error 31 else .ok ⟨[],qja n.text,qje t (qj7 n).text⟩
def wjN (t:List Ty)(p:Par):Bool:=decide (1<p.mode)&& !((qxe t p.typ).sort==0)
def jqC (p x:Par):Bool:=x.name==p.name
def jqB (p x:Par):Bool:=decide (1<x.mode)&&x.typ==p.typ
def kxi (f:Par->Bool)(ps:List Par):Bool:=decide (0<=qvc f ps 0)
def jxD:Par:=⟨[],0,0⟩
def kk0 (t:List Ty)(n:Tree):Par:=match zjd t n with
 |.ok p=>p
 |.error _=>jxD
def qjn (t:List Ty)(k:Tree)(ps:List Par):SR (List Par):=
 if kxi (jqC ⟨k.text,0,0⟩) ps then .error (k.pos,30)
 else match zjd t (qj7 k)with
 |.error e=>.error ((qj7 k).pos,e)
 |.ok p=>if wjN t p&&kxi (jqB p) ps then .error ((qj7 k).pos,34)else .ok (ps++[⟨k.text,p.mode,p.typ⟩])
def qxj (t:List Ty):List Tree->List Par->SR (List Par)
 |[],ps=>.ok ps
 |k::ks,ps=>zxE (qjn t k ps) fun ps=>qxj t ks ps
def wjK (t:List Ty)(n:Tree):SR Sg:=
 if 8<n.kids.length-2 then .error (n.pos,22)
 else zxE (qxj t (n.kids.take (n.kids.length-2)) []) fun ps=>
  match zjd t (n.kids[n.kids.length-2]?.getD (.node 0 [] 0 0 []))with
  |.error e=>.error ((n.kids[n.kids.length-2]?.getD (.node 0 [] 0 0 [])).pos,e)
  |.ok r=>.ok ⟨n.text,ps,r⟩
def zzL (t:List Ty):List Tree->List Sg->SR (List Sg)
 |[],acc=>.ok acc
 |k::ks,acc=>if k.kind=6 then zxE (wjK t k) fun s=>zzL t ks (acc++[s])else zzL t ks acc
def zvv (n:Nat)(p:Par):Prop:=1<=p.mode/\p.mode<=4/\(p.mode≠1->0<=p.typ/\p.typ<n)
theorem zwG {s:Bs}:(s=[]->qja s=0)/\(s=yzT->qja s=1)/\(s=zvR->qja s=2)/\(s=wjQ->qja s=3)/\(s=qwl->qja s=4):=
 ⟨fun e=>by rw[e];rfl,fun e=>by rw[e];rfl,fun e=>by rw[e];rfl,fun e=>by rw[e];rfl,fun e=>by rw[e];rfl⟩
theorem zju (t:List Ty)(s:Bs):qje t s= -1\/0<=qje t s/\qje t s<t.length:=by
 rcases qx0 (fun x:Ty=>x.name==s) t 0 with h|⟨h1,h2⟩;exact .inl h;exact .inr ⟨h1,by show qvc _ t 0<_;simpa using h2⟩
theorem wqL {t:List Ty}{n:Tree}{p:Par}(hm:yjG n)(h:zjd t n=.ok p):p.mode=qja n.text/\(n.text=[]->p.mode=0)/\(n.text≠[]->zvv t.length p)/\p.name=[]:=by
 have hx:=zwG (s:=n.text);unfold zjd at h;rcases hm with⟨h1,h2⟩|⟨h1,k,h2⟩;{rw[h2]at h;cases h;refine⟨rfl,fun e=>hx.1 e,fun e=>?_,rfl⟩;rcases h1 with h1|h1;exact absurd h1 e;{have:=hx.2.1 h1;exact⟨by show 1<=qja n.text;omega,by show qja n.text<=4;omega,fun e=>absurd this e⟩}};{rw[h2]at h;rw[if_neg (by simp)]at h;split at h;{cases h};{cases h;have hr:=zju t (qj7 n).text;have hm:2<=qja n.text/\qja n.text<=4:=by{rcases h1 with h1|h1|h1;{have:=hx.2.2.1 h1;omega};{have:=hx.2.2.2.1 h1;omega};{have:=hx.2.2.2.2 h1;omega}};refine⟨rfl,fun e=>hx.1 e,fun _=>⟨by show 1<=qja n.text;omega,hm.2,fun _=>?_⟩,rfl⟩;show 0<=qje t (qj7 n).text/\qje t (qj7 n).text<t.length;omega}}
theorem zxP {t:List Ty}{k:Tree}{ps qs:List Par}(hk:yjF k)(hp:∀p∈ps,zvv t.length p)(h:qjn t k ps=.ok qs):(∀p∈qs,zvv t.length p)/\qs.length=ps.length+1:=by
 obtain⟨m,h1,h2,h3⟩:=hk;unfold qjn at h;have e0:qj7 k=m:=by{unfold qj7;rw[h1];rfl};split at h;{cases h};{split at h;{cases h};{rename_i p e;rw[e0]at e;have hm:=(wqL h2 e).2.2.1 h3;split at h;{cases h};{cases h;refine⟨fun q hq=>?_,by simp⟩;rcases List.mem_append.1 hq with hq|hq;exact hp q hq;{rw[List.mem_singleton.1 hq];exact hm}}}}
theorem qvD {t:List Ty}:∀{ks:List Tree} {ps qs:List Par},(∀k∈ks,yjF k)->(∀p∈ps,zvv t.length p)->qxj t ks ps=.ok qs->(∀p∈qs,zvv t.length p)/\qs.length=ps.length+ks.length
 |[],ps,qs,_,hp,h=>by cases h;exact⟨hp,rfl⟩
 |k::ks,ps,qs,hk,hp,h=>by
  unfold qxj at h;cases e:qjn t k ps with|error x=>{rw[e]at h;cases h}|ok rs=>{rw[e]at h;obtain⟨h1,h2⟩:=zxP (hk k (List.mem_cons_self ..)) hp e;obtain⟨h3,h4⟩:=qvD (fun k hk'=>hk k (List.mem_cons_of_mem _ hk')) h1 h;exact⟨h3,by rw[h4,h2,lB];omega⟩}
theorem wjI {t:List Ty}{n:Tree}{g:Sg}(hn:yzl n)(h:wjK t n=.ok g):(∀p∈g.params,zvv t.length p)/\g.params.length<=8:=by
 obtain⟨ps,r,b,h1,h2,h3⟩:=hn;unfold wjK at h;have hl:n.kids.length-2=ps.length:=by{rw[h1];simp};split at h;{cases h};{rename_i h8;cases e:qxj t (n.kids.take (n.kids.length-2)) []with|error x=>{rw[e]at h;cases h}|ok qs=>{rw[e]at h;have ht:n.kids.take (n.kids.length-2)=ps:=by{rw[hl,h1];simp};rw[ht]at e;obtain⟨h4,h5⟩:=qvD h2 (by simp) e;simp only[zxE]at h;split at h;{cases h};{cases h;exact⟨h4,by show qs.length<=8;rw[h5];simp;omega⟩}}}
theorem zzK {t:List Ty}:∀{ks:List Tree} {acc gs:List Sg},(∀k∈ks,k.kind=6->yzl k)->(∀g∈acc,(∀p∈g.params,zvv t.length p)/\g.params.length<=8)->zzL t ks acc=.ok gs->(∀g∈gs,(∀p∈g.params,zvv t.length p)/\g.params.length<=8)/\gs.length=acc.length+(ks.filter fun k=>k.kind==6).length
 |[],acc,gs,_,ha,h=>by cases h;exact⟨ha,rfl⟩
 |k::ks,acc,gs,hk,ha,h=>by
  unfold zzL at h;by_cases h6:k.kind=6;{rw[if_pos h6]at h;cases e:wjK t k with|error x=>{rw[e]at h;cases h}|ok s=>{rw[e]at h;have h1:=wjI (hk k (List.mem_cons_self ..) h6) e;obtain⟨h2,h3⟩:=zzK (fun k hk'=>hk k (List.mem_cons_of_mem _ hk')) (fun g hg=>by{rcases List.mem_append.1 hg with hg|hg;exact ha g hg;{rw[List.mem_singleton.1 hg];exact h1}}) h;refine⟨h2,?_⟩;rw[h3,List.filter_cons,if_pos (by simpa using h6),lC];simp;omega}};{rw[if_neg h6]at h;obtain⟨h2,h3⟩:=zzK (fun k hk'=>hk k (List.mem_cons_of_mem _ hk')) ha h;exact⟨h2,by rw[h3,List.filter_cons,if_neg (by simpa using h6)]⟩}
theorem zke {t:List Ty}{n:Tree}{e:Int}(h:zjd t n=.error e):e=31:=by
 unfold zjd at h;split at h;{cases h};{split at h;{cases h;rfl};{cases h}}
theorem zxQ {t:List Ty}{k:Tree}{ps:List Par}{a c:Int}(h:qjn t k ps=.error (a,c)):c≠0:=by
 unfold qjn at h;split at h;{cases h;decide};{split at h;{rename_i e he;cases h;rw[zke he];decide};{split at h;{cases h;decide};{cases h}}}
theorem qvE {t:List Ty}{a c:Int}:∀{ks:List Tree} {ps:List Par},qxj t ks ps=.error (a,c)->c≠0
 |[],ps,h=>by cases h
 |k::ks,ps,h=>by
  unfold qxj at h;cases e:qjn t k ps with|error x=>{obtain⟨a',c'⟩:=x;rw[e]at h;cases h;exact zxQ e}|ok rs=>{rw[e]at h;exact qvE h}
theorem wjJ {t:List Ty}{n:Tree}{a c:Int}(h:wjK t n=.error (a,c)):c≠0:=by
 unfold wjK at h;split at h;{cases h;decide};{cases e:qxj t (n.kids.take (n.kids.length-2)) []with|error x=>{obtain⟨a',c'⟩:=x;rw[e]at h;cases h;exact qvE e}|ok qs=>{rw[e]at h;simp only[zxE]at h;split at h;{rename_i x hx;cases h;rw[zke hx];decide};{cases h}}}
end Lg
namespace Lx
open Go
open Lg (Tok Tree Ty)
open Go.Proofs (Tryz.prog)
open Go.Proofs.Tryz
abbrev EVw:Env:=mkE true (fun _=>false) (fun _=>true)
theorem qjb {sz:Nat}{xs ys:List D}{f:Bool}(h:xs=ys):D.le (.sl sz xs f) (.sl sz ys false):=h▸ .sl (D.les.refl _) (fun e=>by cases e)
theorem zwQ {sz:Nat}{f:Bool}:D.le (.imm (.slice none 0 0)) (.sl sz [] f):=.nil _ _
theorem treeDs_at' {xs:List Tree}{i:Nat}(h:i<xs.length):(qze xs)[i]?=some (qzr xs[i]):=by
 induction xs generalizing i with|nil=>{simp at h}|cons x xs ih=>{cases i with|zero=>{rfl}|succ i=>{exact ih (by simpa using h)}}
theorem qzy (v:Tree):D.ag [.int .i64 v.kind,.st v.text,.int .i64 v.num,.int .i64 v.pos,.sl 5 (qze v.kids) false]=qzr v:=by
 cases v;simp only[qzr,Tree.kind,Tree.text,Tree.num,Tree.pos,Tree.kids]
def qqp (x:Int×Int×Int):D:=.ag [.int .i64 x.1,.int .i64 x.2.1,.int .i64 x.2.2]
def zk1:qzP:=fun ys bx Kr Kp=>∃op a b k l,ys=[.d (.st op),iD a,iD b,iD k,iD l]/\
 Kr (.d (.sl 3 ((Lg.yvX IntKind.i64.wrap op a b k l).map qqp) false)) nix none
theorem yvN:OK Tryz.prog 135 zk1:=by
 refine fn_OK' qzu (E:=EVw) (sp:=spL []) qzt qzl (OKs.ok trivial) func135 rfl ntmps135 results135 call135 [] none ?_;rintro ys bx Kr Kp ⟨op,a,b,k,l,rfl,hK⟩;refine⟨[],rfl,trivial,by simp,?_⟩;simp only[go_sem];refine⟨fun h=>?_,fun h1=>⟨fun h=>?_,fun h2=>⟨fun h=>?_,fun h3=>?_⟩⟩⟩;{have e:=eq_of_beq h;refine⟨_,qzb (qjb (ys:=(Lg.yvX IntKind.i64.wrap op a b k l).map qqp) ?_),hK⟩;rw[e,Lg.yvX,if_pos (show([60]:Bs)=Lg.sLt from rfl)];rfl};{have e:=eq_of_beq h;refine⟨_,qzb (qjb (ys:=(Lg.yvX IntKind.i64.wrap op a b k l).map qqp) ?_),hK⟩;rw[e,Lg.yvX,if_neg (show¬([60,61]:Bs)=Lg.sLt by decide),if_pos (show([60,61]:Bs)=Lg.sLe from rfl)];rfl};{have e:=eq_of_beq h;refine⟨_,qzb (qjb (ys:=(Lg.yvX IntKind.i64.wrap op a b k l).map qqp) ?_),hK⟩;rw[e,Lg.yvX,if_neg (show¬([61,61]:Bs)=Lg.sLt by decide),if_neg (show¬([61,61]:Bs)=Lg.sLe by decide),if_pos (show([61,61]:Bs)=Lg.wqo from rfl)];rfl};{have e:Lg.yvX IntKind.i64.wrap op a b k l=[]:=by{rw[Lg.yvX,if_neg (fun e=>by rw[e]at h1;exact absurd h1 (by decide)),if_neg (fun e=>by rw[e]at h2;exact absurd h2 (by decide)),if_neg (fun e=>by rw[e]at h3;exact absurd h3 (by decide))]};rw[e]at hK;exact⟨_,qzb zwQ,hK⟩}
def nbx (s:Bs):Box:=⟨[.d (.st s)],9⟩
@[go_sem ↓]theorem kqq (s:Bs):(allD (nbx s).cells).isSome=true:=(rfl)
@[go_sem ↓]theorem kqr (r n:Nat)(x:D)(s:Bs):Box.fz r n x (nbx s)=nbx s:=(rfl)
@[go_sem ↓]theorem jxF (k:Nat)(s:Bs):Box.fgt k (nbx s)=nbx s:=(rfl)
def zwq (p:Bs->Tree->Bool):qzP:=fun ys bx Kr Kp=>∃s t,ys=[.d (qzr t),.bp 1000 0]/\bx 1000=some (nbx s)/\Kr (.d (.bool (p s t))) (put 1000 (nbx s) nix) none
theorem zwA:OK Tryz.prog 131 (zwq fun s n=>n.text==s):=by
 refine fn_OK' qzu (E:=EV) (sp:=spL []) qzt qzl (OKs.ok trivial) func131 rfl ntmps131 results131 call131 [1000] none ?_;rintro ys bx Kr Kp ⟨s,t,rfl,hb,hK⟩;refine⟨[(1000,nbx s)],rfl,⟨by decide,hb,trivial⟩,by simp,?_⟩;simp only[nbx,go_sem];exact⟨_,qzb (.rfl _),hK⟩
theorem zve:OK Tryz.prog 133 (zwq fun s n=>n.text==s&&n.kids.isEmpty):=by
 refine fn_OK' qzu (E:=EV) (sp:=spL []) qzt qzl (OKs.ok trivial) func133 rfl ntmps133 results133 call133 [1000] none ?_;rintro ys bx Kr Kp ⟨s,t,rfl,hb,hK⟩;refine⟨[(1000,nbx s)],rfl,⟨by decide,hb,trivial⟩,by simp,?_⟩;simp only[nbx,go_sem];have e0:((t.kids.length:Int)==0)=t.kids.isEmpty:=by{cases t.kids<;>simp;omega};rw[e0];refine⟨fun h=>⟨_,qzb (.rfl _),?_⟩,fun h=>⟨_,qzb (.rfl _),?_⟩⟩;{simp only[h,Bool.true_and]at hK;exact hK};{simp only[h,Bool.false_and]at hK;exact hK}
def jju (f:Nat)(p:Bs->Tree->Bool):qzP:=fun ys bx Kr Kp=>∃s l fl,ys=[.d (.sl 5 (qze l) fl),.fn (.func f) [] [.bp 1000 0]]/\bx 1000=some (nbx s)/\l.length<=4096/\
 Kr (iD (Lg.qvc (p s) l 0)) (put 1000 (nbx s) nix) none
theorem zxr (f:Nat)(p:Bs->Tree->Bool)(hf:OK Tryz.prog f (zwq p)):OK Tryz.prog 132 (jju f p):=by
 refine fn_OK' qzu (E:=EV) (sp:=spL [(f,(zwq p))]) qzt qzl (OKs.ok ⟨hf,trivial⟩) func132 rfl ntmps132 results132 call132 [1000] none ?_;rintro ys bx Kr Kp ⟨s,l,fl,rfl,hb,hl,hK⟩;refine⟨[(1000,nbx s)],rfl,⟨by decide,hb,trivial⟩,by simp,?_⟩;simp only[go_sem];refine qzj (T:={i:Nat //i<=l.length/\Lg.qvc (p s) l 0=Lg.qvc (p s) (l.drop i) i}) (fun i=>⟨19,put 0 (.d (.sl 5 (qze l) fl)) (put 1 (.fn (.func f) [] [.bp 1000 0]) (put 7 (iD l.length) (put 8 (iD i.1) nix))),put 1000 (nbx s) nix,nix⟩) (fun i=>l.length-i.1) ⟨0,by omega,rfl⟩ ⟨rfl,sP4 qza,sP1 qza,qza⟩ ?_;rintro⟨i,hi,hx⟩;simp only[go_sem];refine⟨fun h=>?_,fun h=>?_⟩;{have hlt:i<l.length:=by{have:=lF h;omega};rw[List.drop_eq_getElem_cons hlt,Lg.qvc]at hx;refine⟨by omega,by omega,?_⟩;rw[lA,treeDs_at' hlt];simp only[qzy,go_sem];refine⟨s,l[i],rfl,rfl,?_⟩;simp only[go_sem];refine⟨fun h=>?_,fun h=>?_⟩;{rw[if_pos h]at hx;rw[hx]at hK;exact⟨_,qzb (.rfl _),hK⟩};{rw[if_neg (by rw[h];decide)]at hx;exact⟨⟨by omega,by omega⟩,⟨i+1,hlt,hx⟩,⟨rfl,sP4 qza,sP1 qza,qza⟩,by show l.length-(i+1)<l.length-i;omega⟩}};{have:i=l.length:=by{have:=lG h;omega};subst this;rw[List.drop_length,Lg.qvc]at hx;rw[hx]at hK;exact⟨_,qzb (.rfl _),hK⟩}
def zx7 (f:Nat)(p:Bs->Tree->Bool):qzP:=fun ys bx Kr Kp=>∃s l fl,ys=[.d (.sl 5 (qze l) fl),.fn (.func f) [] [.bp 1000 0]]/\bx 1000=some (nbx s)/\l.length<=4096/\
 Kr (.d (.bool (decide (0<=Lg.qvc (p s) l 0)))) (put 1000 (nbx s) nix) none
theorem zj1 (f:Nat)(p:Bs->Tree->Bool)(hf:OK Tryz.prog f (zwq p)):OK Tryz.prog 130 (zx7 f p):=by
 refine fn_OK' qzu (E:=EV) (sp:=spL [(132,(jju f p))]) qzt qzl (OKs.ok ⟨(zxr f p hf),trivial⟩) func130 rfl ntmps130 results130 call130 [1000] none ?_;rintro ys bx Kr Kp ⟨s,l,fl,rfl,hb,hl,hK⟩;refine⟨[(1000,nbx s)],rfl,⟨by decide,hb,trivial⟩,by simp,?_⟩;simp only[go_sem];refine⟨s,l,fl,rfl,rfl,hl,?_⟩;simp only[go_sem];exact⟨_,qzb (.rfl _),hK⟩
def kk5:qzP:=fun ys bx Kr Kp=>∃s l fl,ys=[.d (.sl 5 (qze l) fl),.d (.st s)]/\l.length<=4096/\Kr (.d (.bool (Lg.yqB l s))) nix none
theorem kqo:OK Tryz.prog 93 kk5:=by
 refine fn_OK' qzu (E:=EV) (sp:=spL [(130,(zx7 131 fun s n=>n.text==s))]) qzt qzl (OKs.ok ⟨(zj1 131 _ zwA),trivial⟩) func93 rfl ntmps93 results93 call93 [] none ?_;rintro ys bx Kr Kp ⟨s,l,fl,rfl,hl,hK⟩;refine⟨[],rfl,trivial,by simp,?_⟩;simp only[go_sem];refine⟨s,l,fl,rfl,rfl,hl,?_⟩;simp only[go_sem];refine⟨_,qzb (.rfl _),?_⟩;rw[Lg.wxc];exact hK
def kk6:qzP:=fun ys bx Kr Kp=>∃x s l fl,ys=[.d x,.d (.st s),.d (.sl 5 (qze l) fl)]/\(∃a b c f g,x=.ag [.st a,.int .i64 b,.int .i64 c,f,g]/\one (.d f)=true/\one (.d g)=true)/\l.length<=4096/\
 Kr (iD (Lg.qwt s l)) nix none
theorem kqp:OK Tryz.prog 94 kk6:=by
 refine fn_OK' qzu (E:=EV) (sp:=spL [(132,(jju 133 fun s n=>n.text==s&&n.kids.isEmpty))]) qzt qzl (OKs.ok ⟨(zxr 133 _ zve),trivial⟩) func94 rfl ntmps94 results94 call94 [] none ?_;rintro ys bx Kr Kp ⟨x,s,l,fl,rfl,⟨a,b,c,f,g,rfl,hf,hg⟩,hl,hK⟩;refine⟨[],rfl,trivial,by simp,?_⟩;simp only[hf,hg,go_sem];refine⟨s,l,fl,rfl,rfl,hl,?_⟩;simp only[go_sem];exact⟨_,qzb (.rfl _),hK⟩
def qqu (r sz:Nat):List D->LV
 |[]=>.d (.imm (.slice none 0 0))
 |x::xs=>.os r sz (xs.length+1)
def qq4 (r sz ty:Nat)(xs:List D)(a:Ar):Ar:=match xs with
 |[]=>a
 |x::xs=>put r (sz,ty,x::xs) a
@[go_sem]theorem ykI (r sz:Nat):qqu r sz []=.d (.imm (.slice none 0 0)):=(rfl)
@[go_sem]theorem yqr (r sz:Nat)(x:D)(xs:List D):qqu r sz (x::xs)=.os r sz (xs.length+1):=(rfl)
@[go_sem]theorem ykJ (r sz ty:Nat)(a:Ar):qq4 r sz ty [] a=a:=(rfl)
@[go_sem]theorem yqs (r sz ty:Nat)(x:D)(xs:List D)(a:Ar):qq4 r sz ty (x::xs) a=put r (sz,ty,x::xs) a:=(rfl)
theorem qzh {n:Nat}{tm tm':Nat->Option LV}{bx bx':Bx}{ar ar':Ar}(h1:qqW tm tm')(h2:qqW bx bx')(h3:qqW ar ar'):Sub ⟨n,tm,bx,ar⟩ ⟨n,tm',bx',ar'⟩:=⟨rfl,h1,h2,h3⟩
theorem qzF {f g:Ar}{r sz ty:Nat}{xs:List D}(h:xs≠[]->f r=some (sz,ty,xs))(hg:qqW f g):qqW f (qq4 r sz ty xs g):=by
 cases xs with|nil=>{exact hg}|cons x xs=>{exact qzd (h (by simp)) hg}
theorem qvi {p:Tree->Bool}{ks:List Tree}{i:Nat}(h:i<ks.length):(ks.take (i+1)).filter p=(ks.take i).filter p++(if p ks[i]then [ks[i]]else []):=by
 rw[List.take_add_one,lD h,List.filter_append];simp only[Option.toList_some,List.filter_cons,List.filter_nil]
def yqo:qzP:=fun ys bx Kr Kp=>∃n,ys=[.d (qzr n)]/\n.kids.length<=4096/\
 Kr (.tup [.d (.sl 5 (qze (n.kids.filter Lg.qkB)) false),.d (.sl 5 (qze (n.kids.filter Lg.zvi)) false)]) nix none
abbrev EPa:Env:=mkE false (fun j=>j==20||j==26) (fun _=>true)
theorem ykG:OK Tryz.prog 90 yqo:=by
 refine fn_OK' qzu (E:=EPa) (sp:=spL []) qzt qzl (OKs.ok trivial) func90 rfl ntmps90 results90 call90 [] none ?_;rintro ys bx Kr Kp ⟨n,rfl,hl,hK⟩;refine⟨[],rfl,trivial,by simp,?_⟩;simp only[go_sem];refine qzj (T:={t:List Tree×List Tree×Nat //t.1=(n.kids.take t.2.2).filter Lg.qkB/\t.2.1=(n.kids.take t.2.2).filter Lg.zvi/\t.2.2<=n.kids.length}) (fun t=>⟨30,put 2 (qqu 20 5 (qze t.1.1)) (put 3 (qqu 26 5 (qze t.1.2.1)) (put 7 (.d (.sl 5 (qze n.kids) false)) (put 8 (iD n.kids.length) (put 9 (iD t.1.2.2) nix)))),nix,qq4 20 5 92 (qze t.1.1) (qq4 26 5 92 (qze t.1.2.1) nix)⟩) (fun t=>n.kids.length-t.1.2.2) ⟨([],[],0),rfl,rfl,by simp⟩ ⟨rfl,sP5 qza,qza,qza⟩ ?_;rintro⟨⟨xs,ys,i⟩,g1,g2,g3⟩;have ha:xs=(n.kids.take i).filter Lg.qkB:=g1;have hb:ys=(n.kids.take i).filter Lg.zvi:=g2;have hi:i<=n.kids.length:=g3;have hla:xs.length<=i:=by{rw[ha];exact Nat.le_trans (List.length_filter_le ..) (by rw[List.length_take];omega)};have hlb:ys.length<=i:=by{rw[hb];exact Nat.le_trans (List.length_filter_le ..) (by rw[List.length_take];omega)};rcases xs with _|⟨z1,xs⟩<;>rcases ys with _|⟨z2,ys⟩;all_goals simp only[qze,go_sem];refine⟨fun h=>?_,fun h=>?_⟩;{have hlt:i<n.kids.length:=by{have:=lF h;omega};have e1:=qvi (p:=Lg.qkB) hlt;have e2:=qvi (p:=Lg.zvi) hlt;rw[<-ha]at e1;rw[<-hb]at e2;simp only[lB,lH]at hla hlb;refine⟨by omega,by omega,?_⟩;rw[lA,treeDs_at' hlt];simp only[qzy,qze,go_sem];refine⟨fun h1=>?_,fun h1=>⟨fun h2=>?_,fun h2=>?_⟩⟩;{have h3:Lg.zvi n.kids[i]=false:=by{have:=eq_of_beq h1;unfold Lg.zvi;rw[this];rfl};rw[if_pos (show Lg.qkB n.kids[i]=true from h1)]at e1;rw[h3,if_neg (by decide),List.append_nil]at e2;(repeat' apply And.intro);all_goals first|(omega)|exact⟨⟨(_,_,i+1),e1.symm,e2.symm,hlt⟩,qzh (qzd (by simp[put,qzp,qze,qqu,qzn]) (qzd (by simp[put,qzp,qze,qqu,qzn]) (sP3 qza))) qza (qzF (fun hne=>by first|(simp[put,qzp,qze];done)|exact absurd rfl hne) (qzF (fun hne=>by first|(simp[put,qzp,qze];done)|exact absurd rfl hne) qza)),by show n.kids.length-(i+1)<n.kids.length-i;omega⟩};{rw[if_neg (show¬Lg.qkB n.kids[i]=true by unfold Lg.qkB;rw[h1];decide),List.append_nil]at e1;rw[if_pos (show Lg.zvi n.kids[i]=true from h2)]at e2;(repeat' apply And.intro);all_goals first|(omega)|exact⟨⟨(_,_,i+1),e1.symm,e2.symm,hlt⟩,qzh (qzd (by simp[put,qzp,qze,qqu,qzn]) (qzd (by simp[put,qzp,qze,qqu,qzn]) (sP3 qza))) qza (qzF (fun hne=>by first|(simp[put,qzp,qze];done)|exact absurd rfl hne) (qzF (fun hne=>by first|(simp[put,qzp,qze];done)|exact absurd rfl hne) qza)),by show n.kids.length-(i+1)<n.kids.length-i;omega⟩};{rw[if_neg (show¬Lg.qkB n.kids[i]=true by unfold Lg.qkB;rw[h1];decide),List.append_nil]at e1;rw[if_neg (show¬Lg.zvi n.kids[i]=true by unfold Lg.zvi;rw[h2];decide),List.append_nil]at e2;(repeat' apply And.intro);all_goals first|(omega)|exact⟨⟨(_,_,i+1),e1.symm,e2.symm,hlt⟩,qzh (qzd (by simp[put,qzp,qze,qqu,qzn]) (qzd (by simp[put,qzp,qze,qqu,qzn]) (sP3 qza))) qza (qzF (fun hne=>by first|(simp[put,qzp,qze];done)|exact absurd rfl hne) (qzF (fun hne=>by first|(simp[put,qzp,qze];done)|exact absurd rfl hne) qza)),by show n.kids.length-(i+1)<n.kids.length-i;omega⟩}};{have h0:i=n.kids.length:=by{have:=lG h;omega};subst h0;rw[List.take_length]at ha hb;rw[<-ha,<-hb]at hK;first|(exact⟨_,.cons (.nil 5 false) (.cons (.nil 5 false) .nil),hK⟩)|(exact⟨_,.cons (.nil 5 false) (.cons (qjb (by simp[qze])) .nil),hK⟩)|(exact⟨_,.cons (qjb (by simp[qze])) (.cons (.nil 5 false) .nil),hK⟩)|exact⟨_,.cons (qjb (by simp[qze])) (.cons (qjb (by simp[qze])) .nil),hK⟩}
end Lx
