import Derived.Test.YtkknljojdgpdaaaGreatDoorA02
set_option maxHeartbeats 32000000
set_option linter.unusedSimpArgs false
set_option linter.unusedVariables false
namespace Lx
open Go
theorem R.turn {z:Bg}{g g':Gh}{ds:List Deferred}{s:S}{a:Act}{w:World}(h:R z g ds s a w)(hl:Gh.le g g'){bx:Bx}{ar:Ar}{w':World}(hw:Rw z g' bx ar w'):
  R z g' ds {s with bx:=bx,ar:=ar} a w':=
 ⟨h.size,h.defers,fun k x hk=>⟨(h.tm k x hk).1,((h.tm k x hk).2).mono hl⟩,hw⟩
theorem Gh.le_refl (g:Gh):Gh.le g g:=⟨rfl,Phi.le_refl _,fun r m' hm=>⟨m',hm,Nat.le_refl _,fun _=>rfl⟩⟩
theorem Gh.le.trans {a b c:Gh}(h:Gh.le a b)(k:Gh.le b c):Gh.le a c:=by
 refine⟨k.β.trans h.β,Phi.le_trans h.Φ k.Φ,fun r m' hm=>?_⟩
 obtain⟨m,hm1,h1,h2⟩:=k.arr r m' hm;obtain⟨m0,hm0,h3,h4⟩:=h.arr r m hm1
 exact⟨m0,hm0,Nat.le_trans h3 h1,fun e=>by rw[h2 (by omega),h4 (by omega)]⟩
def Sam (s s':S):Prop:=s'.n=s.n/\s'.tm=s.tm
theorem Sam.refl (s:S):Sam s s:=⟨rfl,rfl⟩
theorem Sam.trans {a b c:S}(h:Sam a b)(k:Sam b c):Sam a c:=⟨k.1.trans h.1,k.2.trans h.2⟩
section
variable {z:Bg}{g:Gh}{ds:List Deferred}{s:S}{a:Act}{w:World}
theorem frz1_run (hR:R z g ds s a w){x:LV}{v:Value}(hx:LRp g x v){K:D->S->Prop}(h:frz1 s x K):
  ∃g' d s',K d s'/\R z g' ds s' a w/\Gh.le g g'/\Rp g'.Φ d v/\Sam s s':=by
 unfold frz1 at h;split at h
 ·exact⟨g,_,s,h,hR,Gh.le_refl g,hx.unD,Sam.refl s⟩
 ·rename_i r sz n;obtain⟨⟨sz',ty,xs⟩,har,rfl,rfl,hK⟩:=h;obtain⟨g',hl,_,hw,hp⟩:=hR.rw.freeze har;exact⟨g',_,_,hK,hR.turn hl hw,hl,hp _ _ hx,⟨rfl,rfl⟩⟩
 ·exact h.elim
theorem zv3:∀{xs:List LV} {g:Gh} {s:S} {vs:List Value} {K:List D->S->Prop},R z g ds s a w->LRps g xs vs->frzs s xs K->
  ∃g' es s',K es s'/\R z g' ds s' a w/\Gh.le g g'/\Rps g'.Φ es vs/\Sam s s'
 |[],g,s,vs,K,hR,hx,h=>by cases hx;exact⟨g,[],s,h,hR,Gh.le_refl g,.nil,Sam.refl s⟩
 |x::xs,g,s,vs,K,hR,hx,h=>by
  cases hx with
  |cons hx ht=>
   obtain⟨g1,d,s1,h1,hR1,hl1,hp1,hs1⟩:=frz1_run hR hx h;obtain⟨g2,es,s2,h2,hR2,hl2,hp2,hs2⟩:=zv3 hR1 (ht.mono hl1) h1;exact⟨g2,_,s2,h2,hR2,hl1.trans hl2,.cons (hp1.mono hl2.Φ) hp2,hs1.trans hs2⟩
theorem zv4 (hR:R z g ds s a w){x:LV}{v:Value}(hx:LRp g x v){K:D->S->Prop}(h:frz s x K):
  ∃g' d s',K d s'/\R z g' ds s' a w/\Gh.le g g'/\Rp g'.Φ d v/\Sam s s':=by
 unfold frz at h;split at h
 · cases hx with
   |ag hx=>
    obtain⟨g',es,s',h1,hR1,hl,hp,hs⟩:=zv3 hR hx h;exact⟨g',_,s',h1,hR1,hl,.ag hp,hs⟩
 ·exact frz1_run hR hx h
theorem frzA1_run (hR:R z g ds s a w){x:LV}{v:Value}(hx:LRp g x v){K:LV->S->Prop}(h:frzA1 s x K):
  ∃g' y s',K y s'/\R z g' ds s' a w/\Gh.le g g'/\LRp g' y v/\Sam s s':=by
 unfold frzA1 at h;split at h
 ·exact⟨g,_,s,h,hR,Gh.le_refl g,hx,Sam.refl s⟩
 ·exact⟨g,_,s,h,hR,Gh.le_refl g,hx,Sam.refl s⟩
 ·exact⟨g,_,s,h,hR,Gh.le_refl g,hx,Sam.refl s⟩
 ·exact⟨g,_,s,h,hR,Gh.le_refl g,hx,Sam.refl s⟩
 ·obtain⟨g',d,s',h1,hR1,hl,hp,hs⟩:=zv4 hR hx h;exact⟨g',_,s',h1,hR1,hl,.d hp,hs⟩
theorem zv6:∀{xs:List LV} {g:Gh} {s:S} {vs:List Value} {K:List LV->S->Prop},R z g ds s a w->LRps g xs vs->frzA s xs K->
  ∃g' es s',K es s'/\R z g' ds s' a w/\Gh.le g g'/\LRps g' es vs/\Sam s s'
 |[],g,s,vs,K,hR,hx,h=>by cases hx;exact⟨g,[],s,h,hR,Gh.le_refl g,.nil,Sam.refl s⟩
 |x::xs,g,s,vs,K,hR,hx,h=>by
  cases hx with
  |cons hx ht=>
   obtain⟨g1,d,s1,h1,hR1,hl1,hp1,hs1⟩:=frzA1_run hR hx h;obtain⟨g2,es,s2,h2,hR2,hl2,hp2,hs2⟩:=zv6 hR1 (ht.mono hl1) h1;exact⟨g2,_,s2,h2,hR2,hl1.trans hl2,.cons (hp1.mono hl2) hp2,hs1.trans hs2⟩
theorem frzE_run:∀{xs:List (Nat×LV)} {n:Nat} {g:Gh} {s:S} {vs:List Value} {K:List D->S->Prop},R z g ds s a w->LRps g (xs.map (·.2)) vs->frzE s n xs K->
  xs.map (·.1)=List.range' n xs.length/\∃g' es s',K es s'/\R z g' ds s' a w/\Gh.le g g'/\Rps g'.Φ es vs/\Sam s s'
 |[],n,g,s,vs,K,hR,hx,h=>by cases hx;exact⟨rfl,g,[],s,h,hR,Gh.le_refl g,.nil,Sam.refl s⟩
 |(i,x)::xs,n,g,s,vs,K,hR,hx,h=>by
   cases hx with
   |cons hx ht=>
    obtain⟨rfl,h⟩:=h;obtain⟨g1,d,s1,h1,hR1,hl1,hp1,hs1⟩:=zv4 hR hx h;obtain⟨hr,g2,es,s2,h2,hR2,hl2,hp2,hs2⟩:=frzE_run hR1 (ht.mono hl1) h1
    exact⟨by simp[List.range'_succ,hr],g2,_,s2,h2,hR2,hl1.trans hl2,.cons (hp1.mono hl2.Φ) hp2,hs1.trans hs2⟩
end
def ar0 (a1:Ar1):Ar:=fun r=>if r=0 then a1 else none
def qxh (g:Gh)(bx:Bx)(b:Nat):Prop:=∃k x,bx k=some x/\g.β k=b
structure Aft (g:Gh)(bx:Bx)(w:World)(g':Gh)(bx':Bx)(a1:Ar1)(w':World):Prop where
 Φ:Phi.le g.Φ g'.Φ
 fr:Fr (qxh g bx) w w'
 fix:∀b o v,g'.Φ b o=some v->g.Φ b o=some v\/qxh g bx b\/w.heap.size<=b
 wd:Wd g' bx' (ar0 a1) w'
 keys:∀k b,bx' k=some b->(∃b₀,bx k=some b₀)/\g'.β k=g.β k/\∃ds:List D,b.cells=ds.map LV.d
 arr:∀a,a1=some a->qxh g bx (g'.α 0).1\/w.heap.size<=(g'.α 0).1
structure OK (P:Program)(f:FuncId)(Sp:Spec):Prop where
 enters:∀(args:Array Value) (w:World),(callFunc f args).run P w=.ok (.enter f args) w
 calls:∀(as:List LV) (bx:Bx) (Kr:LV->Bx->Ar1->Prop) (Kp:D->Bx->Prop),Sp as bx Kr Kp->∀(g:Gh) (vs:List Value) (w:World),LRps g as vs->Wd g bx nix w->
  Calls P f vs.toArray w fun e w'=>∃g',
   (∃x v bx' a1,e=.returned v/\Kr x bx' a1/\LRp g' x v/\Aft g bx w g' bx' a1 w')\/
   (∃d v bx',e=.panicked [{v:=v,recovered:=false}]/\Kp d bx'/\Rp g'.Φ d v/\Aft g bx w g' bx' none w')
mutual
theorem LRp.rn {g g':Gh}{o:Option Nat}(hΦ:Phi.le g.Φ g'.Φ)(ho:∀d,o=some d->g'.len d=g.len 0/\g'.α d=g.α 0){x:LV}{v:Value}(h:LRp g x v):LRp g' (Lx.rn o x) v:=by
 cases h with
 |d h=>simp only[Lx.rn];exact .d (h.mono hΦ)
 |bp k off=>simp only[Lx.rn];exact .un _
 | @os r sz n v h1 h=>
   simp only[Lx.rn];split
   · rename_i e;subst e
     cases o with
     |none=>exact .un _
     |some d=>
      obtain⟨e1,e2⟩:=ho d rfl
      exact .os h1 fun m hm=>by rw[e2];exact h m (by rw[<-e1];exact hm)
   ·exact .un _
 |ap h1 h=>simp only[Lx.rn];exact .un _
 |ep b o off h hc=>simp only[Lx.rn];exact .ep b o off (h.mono hΦ) (fun j c hj=>hΦ _ _ _ (hc j c hj))
 |ag h=>simp only[Lx.rn];exact .ag (h.rns hΦ ho)
 |fn f h h'=>simp only[Lx.rn];exact .un _
 |tup h=>simp only[Lx.rn];exact .tup (h.rns hΦ ho)
 |mp k=>simp only[Lx.rn];exact .un _
 |un=>simp only[Lx.rn];exact .un _
theorem LRps.rns {g g':Gh}{o:Option Nat}(hΦ:Phi.le g.Φ g'.Φ)(ho:∀d,o=some d->g'.len d=g.len 0/\g'.α d=g.α 0){xs:List LV}{vs:List Value}(h:LRps g xs vs):LRps g' (Lx.rns o xs) vs:=by
 cases h with
 |nil=>simp only[Lx.rns];exact .nil
 |cons h t=>simp only[Lx.rns];exact .cons (h.rn hΦ ho) (t.rns hΦ ho)
end
theorem qx5:∀{ks:List Nat} {k:Nat},k∈ks->ks[ixof k ks]?=some k
 |j::l,k,h=>by
  unfold ixof;split
  ·rename_i e;subst e;rfl
  ·rename_i e;simpa using qx5 (by simpa[e]using h)
theorem qv5:∀{ks:List Nat},nodup ks=true->∀{i j k:Nat},ks[i]?=some k->ks[j]?=some k->i=j
 |[],_,i,j,k,h,_=>by simp at h
 |x::l,h,i,j,k,hi,hj=>by
  simp only[nodup,Bool.and_eq_true,Bool.not_eq_true',List.contains_eq_mem,decide_eq_false_iff_not]at h
  cases i with
  |zero=>
   cases j with
   |zero=>rfl
   |succ j=>
    simp only[List.getElem?_cons_zero,Option.some.injEq,List.getElem?_cons_succ]at hi hj;exact absurd (List.mem_of_getElem? hj) (by rw[<-hi];exact h.1)
  |succ i=>
   cases j with
   |zero=>
    simp only[List.getElem?_cons_zero,Option.some.injEq,List.getElem?_cons_succ]at hi hj;exact absurd (List.mem_of_getElem? hi) (by rw[<-hj];exact h.1)
   |succ j=>
    simp only[List.getElem?_cons_succ]at hi hj;rw[qv5 h.2 hi hj]
theorem qv7 {ks:List Nat}{bx:Bx}{j:Nat}{b:Box}(h:fp ks bx j=some b):1000<=j/\∃k,ks[j-1000]?=some k/\bx k=some b:=by
 unfold fp at h;split at h
 · obtain⟨k,h1,h2⟩:=Option.bind_eq_some_iff.1 h
   exact⟨by assumption,k,h1,h2⟩
 ·cases h
theorem zvn {bx:Bx}:∀{ks:List Nat},okB bx ks->∀k∈ks,∃b,bx k=some b/\∃ds:List D,b.cells=ds.map LV.d
 |j::l,h,k,hk=>by
  cases hk with
  |head=>
   obtain⟨b,hb,hs⟩:=h.1;obtain⟨ds,hds⟩:=Option.isSome_iff_exists.1 hs;exact⟨b,hb,ds,zqv hds⟩
  |tail _ hk=>exact zvn h.2 k hk
def Gh.bare (g:Gh)(ks:List Nat):Gh:={β:=fun j=>g.β (ks.getD (j-1000) 0),Φ:=g.Φ,α:=g.α,len:=fun _=>none}
mutual
theorem LRp.ren {g:Gh}{ks:List Nat}{x:LV}{v:Value}(h:LRp g x v)(hk:∀k∈kys x,k∈ks):LRp (g.bare ks) (Lx.ren ks x) v:=by
 cases h with
 |d h=>simp only[Lx.ren];exact .d h
 |bp k off=>
  simp only[Lx.ren];have:=qx5 (hk k (by simp[kys]))
  have e:(g.bare ks).β (1000+ixof k ks)=g.β k:=by simp[Gh.bare,this]
  rw[<-e];exact .bp _ _
 |os h1 h=>simp only[Lx.ren];exact .un _
 |ap h1 h=>simp only[Lx.ren];exact .un _
 |ep b o off h hc=>simp only[Lx.ren];exact .ep b o off h hc
 |ag h=>simp only[Lx.ren];exact .ag (h.rens (fun k h'=>hk k (by simpa[kys]using h')))
 |fn f h h'=>simp only[Lx.ren];exact .fn f (h.rens (fun k h'=>hk k (by simp[kys,h']))) (h'.rens (fun k h'=>hk k (by simp[kys,h'])))
 |tup h=>simp only[Lx.ren];exact .tup (h.rens (fun k h'=>hk k (by simpa[kys]using h')))
 |mp k=>
  simp only[Lx.ren];have:=qx5 (hk k (by simp[kys]))
  have e:(g.bare ks).β (1000+ixof k ks)=g.β k:=by simp[Gh.bare,this]
  rw[<-e];exact .mp _
 |un=>simp only[Lx.ren];exact .un _
theorem LRps.rens {g:Gh}{ks:List Nat}{xs:List LV}{vs:List Value}(h:LRps g xs vs)(hk:∀k∈kyss xs,k∈ks):LRps (g.bare ks) (Lx.rens ks xs) vs:=by
 cases h with
 |nil=>simp only[Lx.rens];exact .nil
 |cons h t=>simp only[Lx.rens];exact .cons (h.ren (fun k h'=>hk k (by simp[kyss,h']))) (t.rens (fun k h'=>hk k (by simp[kyss,h'])))
end
theorem Gh.bare_β {g:Gh}{ks:List Nat}{j k:Nat}(h:ks[j-1000]?=some k):(g.bare ks).β j=g.β k:=by simp[Gh.bare,h]
theorem Wd.fp {g:Gh}{bx:Bx}{ar:Ar}{w:World}(h:Wd g bx ar w){ks:List Nat}(hnd:nodup ks=true)(hok:okB bx ks):Wd (g.bare ks) (fp ks bx) nix w where
 box j b hj:=by
  obtain⟨_,k,hk,hb⟩:=qv7 hj;obtain⟨b',hb',ds,hds⟩:=zvn hok k (List.mem_of_getElem? hk);rw[hb]at hb';simp only[Option.some.injEq]at hb';subst hb';obtain⟨vs,h1,h2⟩:=h.box k b hb;rw[hds]at h1⊢;rw[Gh.bare_β hk];exact⟨vs,LRps.ofD h1.toD,h2⟩
 arr r sz ty xs hr:=by cases hr
 len r:=rfl
 fx:=h.fx
 inj j j' b b' hj hj' he:=by
  obtain⟨h1,k,hk,hb⟩:=qv7 hj;obtain⟨h1',k',hk',hb'⟩:=qv7 hj';rw[Gh.bare_β hk,Gh.bare_β hk']at he;have e:=h.inj k k' b b' hb hb' he;subst e;have:=qv5 hnd hk hk';omega
 inja r r' a a' hr:=by cases hr
 injb k r b a hk hr:=by cases hr
 outb j b o hj:=by
  obtain⟨_,k,hk,hb⟩:=qv7 hj;rw[Gh.bare_β hk];exact h.outb k b o hb
 outa r a o hr ho:=by cases hr
theorem zzt {ks:List Nat}{bx' bx:Bx}{k:Nat}{b:Box}(h:mrg ks bx' bx k=some b):(k∈ks/\bx' (1000+ixof k ks)=some b)\/(k∉ks/\bx k=some b):=by
 unfold mrg at h;split at h
 ·rename_i hk;exact .inl ⟨by simpa using hk,h⟩
 ·rename_i hk;exact .inr ⟨by simpa using hk,h⟩
theorem Fr.after {own own':Nat->Prop}{w₀ w w':World}(h:Fr own w₀ w)(k:Fr own' w w')(ho:∀b,own' b->own b\/w₀.heap.size<=b):Fr own w₀ w':=
 ⟨k.os.trans h.os,k.tape.trans h.tape,k.output.trans h.output,Nat.le_trans h.size k.size,fun b hb hn=>
   (k.block b (Nat.lt_of_lt_of_le hb h.size) (fun e=>by rcases ho b e with h'|h';exact hn h';omega)).trans (h.block b hb hn)⟩
theorem Rw.call {z:Bg}{g g':Gh}{bx bx':Bx}{ar:Ar}{a1:Ar1}{w w':World}{ks:List Nat}(h:Rw z g bx ar w)(k:Aft (g.bare ks) (fp ks bx) w g' bx' a1 w'):
  Gh.le g {g with Φ:=g'.Φ}/\Rw z {g with Φ:=g'.Φ} (mrg ks bx' bx) ar w':=by
 have hl:Gh.le g {g with Φ:=g'.Φ}:=⟨rfl,k.Φ,fun r m' hm=>⟨m',hm,Nat.le_refl _,fun _=>rfl⟩⟩
 have hown:∀b,qxh (g.bare ks) (fp ks bx) b->∃j x,j∈ks/\bx j=some x/\g.β j=b:=fun b ⟨j,x,h1,h2⟩=>by
  obtain⟨_,i,h3,h4⟩:=qv7 h1;rw[Gh.bare_β h3]at h2;exact⟨i,x,List.mem_of_getElem? h3,h4,h2⟩
 have hmine:∀b,qxh (g.bare ks) (fp ks bx) b->z.own b\/z.w.heap.size<=b:=fun b hb=>by
  obtain⟨j,x,_,h2,rfl⟩:=hown b hb;exact h.mine.box j x h2
 have keep:∀b,(∃o,w.heap[b]?=some o)->(∀j x,j∈ks->bx j=some x->g.β j≠b)->w'.heap[b]?=w.heap[b]?:=fun b ⟨o,ho⟩ hn=>
  k.fr.block b (qqv ho) (fun hb=>by obtain⟨j,x,h1,h2,h3⟩:=hown b hb;exact hn j x h1 h2 h3)
 have hΦ:∀b o,(∀j x,j∈ks->bx j=some x->g.β j≠b)->b<w.heap.size->g.Φ b o=none->g'.Φ b o=none:=fun b o hn hb h0=>by
  cases hv:g'.Φ b o with
  |none=>rfl
  |some v=>
   rcases k.fix b o v hv with h'|h'|h'
   ·have h'':g.Φ b o=some v:=h';rw[h0]at h'';cases h''
   ·obtain⟨j,x,h1,h2,h3⟩:=hown b h';exact absurd h3 (hn j x h1 h2)
   ·omega
 have hex:∀j b,mrg ks bx' bx j=some b->∃b₀,bx j=some b₀:=fun j b hj=>by
  rcases zzt hj with⟨h1,h2⟩|⟨h1,h2⟩
  ·obtain⟨⟨b₀,hb₀⟩,_⟩:=k.keys _ b h2;obtain⟨_,i,h3,h4⟩:=qv7 hb₀;rw[Nat.add_sub_cancel_left,qx5 h1]at h3;simp only[Option.some.injEq]at h3;subst h3;exact⟨b₀,h4⟩
  ·exact⟨b,h2⟩
 have hβ:∀j b,j∈ks->bx' (1000+ixof j ks)=some b->g'.β (1000+ixof j ks)=g.β j:=fun j b h1 h2=>by
  rw[(k.keys _ b h2).2.1,Gh.bare_β (k:=j) (by rw[Nat.add_sub_cancel_left];exact qx5 h1)]
 refine⟨hl,⟨?_,?_,h.wd.len,?_,?_,h.wd.inja,?_,?_,?_⟩,h.fr.after k.fr hmine,⟨?_,h.mine.arr,Phi.le_trans h.mine.le k.Φ,?_⟩,h.keys⟩
 · intro j b hj
   rcases zzt hj with⟨h1,h2⟩|⟨h1,h2⟩
   · obtain⟨_,_,ds,hds⟩:=k.keys _ b h2;obtain⟨vs,h3,h4,h5⟩:=k.wd.box _ b h2;refine⟨vs,?_,?_,h5⟩
     ·rw[hds]at h3⊢;exact LRps.ofD h3.toD
     ·rw[hβ j b h1 h2]at h4;exact h4
   ·obtain⟨vs,h3,h4,h5⟩:=h.wd.box j b h2;refine⟨vs,h3.mono hl,?_,h5⟩;rw[keep (g.β j) ⟨_,h4⟩ (fun i x hi hx e=>h1 (by rw[<-h.wd.inj i j _ _ hx h2 e];exact hi))];exact h4
 ·intro r sz ty xs hr;obtain⟨us,c,h1,h2,h3⟩:=h.wd.arr r sz ty xs hr;refine⟨us,c,h1.mono k.Φ,?_,h3⟩;rw[keep (g.α r).1 ⟨_,h2⟩ (fun i x hi hx e=>h.wd.injb i r _ _ hx hr e)];exact h2
 ·exact k.wd.fx
 ·intro j j' b b' hj hj' he;obtain⟨_,h1⟩:=hex j b hj;obtain⟨_,h2⟩:=hex j' b' hj';exact h.wd.inj j j' _ _ h1 h2 he
 ·intro j r b a hj hr;obtain⟨_,h1⟩:=hex j b hj;exact h.wd.injb j r _ a h1 hr
 · intro j b o hj
   rcases zzt hj with⟨h1,h2⟩|⟨h1,h2⟩
   ·have:=k.wd.outb _ b o h2;rw[hβ j b h1 h2]at this;exact this
   ·exact hΦ (g.β j) o (fun i x hi hx e=>h1 (by rw[<-h.wd.inj i j _ _ hx h2 e];exact hi)) (h.wd.lt_box h2) (h.wd.outb j b o h2)
 ·intro r a o hr ho;exact hΦ (g.α r).1 o (fun i x hi hx e=>h.wd.injb i r _ _ hx hr e) (h.wd.lt_arr hr) (h.wd.outa r a o hr ho)
 ·intro j b hj;obtain⟨_,h1⟩:=hex j b hj;exact h.mine.box j _ h1
 · intro b o v hv
   rcases k.fix b o v hv with h'|h'|h'
   ·exact h.mine.fix b o v h'
   ·exact(hmine b h').elim (fun x=>.inr (.inl x)) (fun x=>.inr (.inr x))
   ·exact .inr (.inr (Nat.le_trans h.fr.size h'))
section
variable {z:Bg}{g:Gh}{ds:List Deferred}{s:S}{a:Act}{w:World}
theorem lnd1_run (hR:R z g ds s a w){x:LV}{v:Value}(hx:LRp g x v){K:D->S->Prop}(h:lnd1 s x K):
  ∃g' d s',K d s'/\R z g' ds s' a w/\Gh.le g g'/\Rp g'.Φ d v/\Sam s s':=by
 unfold lnd1 at h;split at h
 ·exact⟨g,_,s,h,hR,Gh.le_refl g,hx.unD,Sam.refl s⟩
 ·rename_i r sz n;obtain⟨⟨sz',ty,xs⟩,har,rfl,rfl,hK⟩:=h;obtain⟨g',hl,_,hw,hp⟩:=hR.rw.lend har;exact⟨g',_,_,hK,hR.turn hl hw,hl,hp _ _ hx,⟨rfl,rfl⟩⟩
 ·exact h.elim
theorem lnds_run:∀{xs:List LV} {g:Gh} {s:S} {vs:List Value} {K:List D->S->Prop},R z g ds s a w->LRps g xs vs->lnds s xs K->
  ∃g' es s',K es s'/\R z g' ds s' a w/\Gh.le g g'/\Rps g'.Φ es vs/\Sam s s'
 |[],g,s,vs,K,hR,hx,h=>by cases hx;exact⟨g,[],s,h,hR,Gh.le_refl g,.nil,Sam.refl s⟩
 |x::xs,g,s,vs,K,hR,hx,h=>by
  cases hx with
  |cons hx ht=>
   obtain⟨g1,d,s1,h1,hR1,hl1,hp1,hs1⟩:=lnd1_run hR hx h;obtain⟨g2,es,s2,h2,hR2,hl2,hp2,hs2⟩:=lnds_run hR1 (ht.mono hl1) h1;exact⟨g2,_,s2,h2,hR2,hl1.trans hl2,.cons (hp1.mono hl2.Φ) hp2,hs1.trans hs2⟩
theorem lnd_run (hR:R z g ds s a w){x:LV}{v:Value}(hx:LRp g x v){K:D->S->Prop}(h:lnd s x K):
  ∃g' d s',K d s'/\R z g' ds s' a w/\Gh.le g g'/\Rp g'.Φ d v/\Sam s s':=by
 unfold lnd at h;split at h
 · cases hx with
   |ag hx=>
    obtain⟨g',es,s',h1,hR1,hl,hp,hs⟩:=lnds_run hR hx h;exact⟨g',_,s',h1,hR1,hl,.ag hp,hs⟩
 ·exact lnd1_run hR hx h
theorem lndA1_run (hR:R z g ds s a w){x:LV}{v:Value}(hx:LRp g x v){K:LV->S->Prop}(h:lndA1 s x K):
  ∃g' y s',K y s'/\R z g' ds s' a w/\Gh.le g g'/\LRp g' y v/\Sam s s':=by
 unfold lndA1 at h;split at h
 ·exact⟨g,_,s,h,hR,Gh.le_refl g,hx,Sam.refl s⟩
 ·exact⟨g,_,s,h,hR,Gh.le_refl g,hx,Sam.refl s⟩
 ·exact⟨g,_,s,h,hR,Gh.le_refl g,hx,Sam.refl s⟩
 ·exact⟨g,_,s,h,hR,Gh.le_refl g,hx,Sam.refl s⟩
 ·exact⟨g,_,s,h,hR,Gh.le_refl g,hx,Sam.refl s⟩
 ·obtain⟨g',d,s',h1,hR1,hl,hp,hs⟩:=lnd_run hR hx h;exact⟨g',_,s',h1,hR1,hl,.d hp,hs⟩
theorem lndA_run:∀{xs:List LV} {g:Gh} {s:S} {vs:List Value} {K:List LV->S->Prop},R z g ds s a w->LRps g xs vs->lndA s xs K->
  ∃g' es s',K es s'/\R z g' ds s' a w/\Gh.le g g'/\LRps g' es vs/\Sam s s'
 |[],g,s,vs,K,hR,hx,h=>by cases hx;exact⟨g,[],s,h,hR,Gh.le_refl g,.nil,Sam.refl s⟩
 |x::xs,g,s,vs,K,hR,hx,h=>by
  cases hx with
  |cons hx ht=>
   obtain⟨g1,d,s1,h1,hR1,hl1,hp1,hs1⟩:=lndA1_run hR hx h;obtain⟨g2,es,s2,h2,hR2,hl2,hp2,hs2⟩:=lndA_run hR1 (ht.mono hl1) h1;exact⟨g2,_,s2,h2,hR2,hl1.trans hl2,.cons (hp1.mono hl2) hp2,hs1.trans hs2⟩
end
def own3 (g:Gh)(bx:Bx)(ar:Ar)(b:Nat):Prop:=(∃k x,bx k=some x/\g.β k=b)\/∃r a,ar r=some a/\(g.α r).1=b
structure Aft3 (g:Gh)(bx:Bx)(ar:Ar)(w:World)(g':Gh)(bx':Bx)(ar':Ar)(w':World):Prop where
 Φ:Phi.le g.Φ g'.Φ
 fr:Fr (own3 g bx ar) w w'
 fix:∀b o v,g'.Φ b o=some v->g.Φ b o=some v\/own3 g bx ar b\/w.heap.size<=b
 wd:Wd g' bx' ar' w'
 keys:∀k b,bx' k=some b->1000<=k/\(∃b₀,bx k=some b₀)/\g'.β k=g.β k
 arr:∀r a,ar' r=some a->own3 g bx ar (g'.α r).1\/w.heap.size<=(g'.α r).1
structure OK3 (P:Program)(f:FuncId)(Sp:Spec3):Prop where
 enters:∀(args:Array Value) (w:World),(callFunc f args).run P w=.ok (.enter f args) w
 calls:∀(as:List LV) (bx:Bx) (ar:Ar) (Kr:LV->Bx->Ar->Prop) (Kp:D->Bx->Prop),Sp as bx ar Kr Kp->∀(g:Gh) (vs:List Value) (w:World),LRps g as vs->Wd g bx ar w->
  Calls P f vs.toArray w fun e w'=>∃g',
   (∃x v bx' ar',e=.returned v/\Kr x bx' ar'/\LRp g' x v/\Aft3 g bx ar w g' bx' ar' w')\/
   (∃d v bx',e=.panicked [{v:=v,recovered:=false}]/\Kp d bx'/\Rp g'.Φ d v/\Aft3 g bx ar w g' bx' nix w')
structure AftS (g:Gh)(bx:Bx)(w:World)(g':Gh)(bx':Bx)(w':World):Prop where
 Φ:Phi.le g.Φ g'.Φ
 fr:Fr (qxh g bx) w w'
 fix:∀b o v,g'.Φ b o=some v->g.Φ b o=some v\/qxh g bx b\/w.heap.size<=b
 wd:Wd g' bx' nix w'
 keys:∀k b,bx' k=some b->(1000000<=k\/∃b₀,bx k=some b₀)/\g'.β k=g.β k/\(qxh g bx (g'.β k)\/w.heap.size<=g'.β k)/\dC b.cells=b.cells
structure OKS (P:Program)(f:FuncId)(Sp:Spec):Prop where
 enters:∀(args:Array Value) (w:World),(callFunc f args).run P w=.ok (.enter f args) w
 calls:∀(as:List LV) (bx:Bx) (Kr:LV->Bx->Ar1->Prop) (Kp:D->Bx->Prop),Sp as bx Kr Kp->∀(g:Gh) (vs:List Value) (w:World),(∀k,1000000<=k->g.β k=k-1000000)->
  (∀k b,bx k=some b->1000<=k/\dC b.cells=b.cells)->LRps g as vs->Wd g bx nix w->
  Calls P f vs.toArray w fun e w'=>∃g',
   (∃x v bx',e=.returned v/\Kr x bx' none/\LRp g' x v/\AftS g bx w g' bx' w')\/
   (∃d v bx',e=.panicked [{v:=v,recovered:=false}]/\Kp d bx'/\Rp g'.Φ d v/\AftS g bx w g' bx' w')
theorem dC_rp {g g':Gh}(hl:Phi.le g.Φ g'.Φ):∀{xs:List LV} {vs:List Value},LRps g xs vs->LRps g' (dC xs) vs
 |[],_,h=>by cases h;exact .nil
 |x::xs,_,h=>by
  cases h with
  |cons h t=>
   refine .cons ?_ (dC_rp hl t)
   cases h with
   |d h=>exact .d (h.mono hl)
   |_=>exact .un _
theorem dC_map:∀ds:List D,dC (ds.map LV.d)=ds.map LV.d
 |[]=>rfl
 |d::ds=>by simp only[List.map_cons,dC,dC_map ds]
def Gh.bareS (g:Gh)(ks:List Nat):Gh:={β:=fun j=>if 1000000<=j then j-1000000 else g.β (ks.getD (j-1000) 0),Φ:=g.Φ,α:=g.α,len:=fun _=>none}
theorem zve {ks:List Nat}(h:qvk ks=true){k:Nat}(hk:k∈ks):1000+ixof k ks<1000000:=by
 have h1:=(List.getElem?_eq_some_iff.1 (qx5 hk)).1;have h2:=lF (Bool.and_eq_true_iff.1 h).1;omega
theorem short_lt {ks:List Nat}(h:qvk ks=true){k:Nat}(hk:k∈ks):k<1000000:=lF (List.all_eq_true.1 (Bool.and_eq_true_iff.1 h).2 k hk)
theorem Gh.bareS_ix {g:Gh}{ks:List Nat}(h:qvk ks=true){k:Nat}(hk:k∈ks):(g.bareS ks).β (1000+ixof k ks)=g.β k:=by
 have:=zve h hk;have h2:=qx5 hk;simp only[Gh.bareS];rw[if_neg (by omega)];simp[h2]
mutual
theorem LRp.renS {g:Gh}{ks:List Nat}(hs:qvk ks=true){x:LV}{v:Value}(h:LRp g x v)(hk:∀k∈kys x,k∈ks):LRp (g.bareS ks) (Lx.ren ks x) v:=by
 cases h with
 |d h=>simp only[Lx.ren];exact .d h
 |bp k off=>simp only[Lx.ren];rw[<-Gh.bareS_ix hs (hk k (by simp[kys]))];exact .bp _ _
 |os h1 h=>simp only[Lx.ren];exact .un _
 |ap h1 h=>simp only[Lx.ren];exact .un _
 |ep b o off h hc=>simp only[Lx.ren];exact .ep b o off h hc
 |ag h=>simp only[Lx.ren];exact .ag (h.rensS hs (fun k h'=>hk k (by simpa[kys]using h')))
 |fn f h h'=>simp only[Lx.ren];exact .fn f (h.rensS hs (fun k h'=>hk k (by simp[kys,h']))) (h'.rensS hs (fun k h'=>hk k (by simp[kys,h'])))
 |tup h=>simp only[Lx.ren];exact .tup (h.rensS hs (fun k h'=>hk k (by simpa[kys]using h')))
 |mp k=>simp only[Lx.ren];rw[<-Gh.bareS_ix hs (hk k (by simp[kys]))];exact .mp _
 |un=>simp only[Lx.ren];exact .un _
theorem LRps.rensS {g:Gh}{ks:List Nat}(hs:qvk ks=true){xs:List LV}{vs:List Value}(h:LRps g xs vs)(hk:∀k∈kyss xs,k∈ks):LRps (g.bareS ks) (Lx.rens ks xs) vs:=by
 cases h with
 |nil=>simp only[Lx.rens];exact .nil
 |cons h t=>simp only[Lx.rens];exact .cons (h.renS hs (fun k h'=>hk k (by simp[kyss,h']))) (t.rensS hs (fun k h'=>hk k (by simp[kyss,h'])))
end
theorem zxd {bx f:Bx}{j:Nat}{b:Box}(h:ovS bx f j=some b):(1000000<=j/\∃b₀,bx j=some b₀/\b=⟨dC b₀.cells,b₀.ty⟩)\/(j<1000000/\f j=some b):=by
 unfold ovS at h;split at h
 · obtain⟨b₀,h1,h2⟩:=Option.map_eq_some_iff.1 h
   exact .inl ⟨by assumption,b₀,h1,h2.symm⟩
 ·exact .inr ⟨by omega,h⟩
theorem dC_dC:∀xs:List LV,dC (dC xs)=dC xs
 |[]=>rfl
 |x::xs=>by cases x<;>simp only[dC,dC_dC xs]
theorem qvb {z:Bg}{E:Env}[Stb E z] (he:E.hp=true){g:Gh}{bx:Bx}{ar:Ar}{w:World}(h:Rw z g bx ar w){ks:List Nat}(hs:qvk ks=true){j:Nat}{b:Box}(hb:ovS bx (fp ks bx) j=some b):
  ∃k b₀,bx k=some b₀/\b.ty=b₀.ty/\(g.bareS ks).β j=g.β k/\(b=⟨dC b₀.cells,b₀.ty⟩/\k=j/\1000000<=j\/b=b₀/\k∈ks/\j<1000000/\ks[j-1000]?=some k/\1000<=j):=by
 rcases zxd hb with⟨h1,b₀,h2,rfl⟩|⟨h1,h2⟩
 ·refine⟨j,b₀,h2,rfl,?_,.inl ⟨rfl,rfl,h1⟩⟩;have:=Stb.get he h (j-1000000);rw[Nat.sub_add_cancel h1]at this;simp only[Gh.bareS];rw[if_pos h1,this]
 ·obtain⟨h3,k,h4,h5⟩:=qv7 h2;refine⟨k,b,h5,rfl,?_,.inr ⟨rfl,List.mem_of_getElem? h4,h1,h4,h3⟩⟩;simp only[Gh.bareS];rw[if_neg (by omega)];simp[h4]
theorem Wd.fpS {z:Bg}{E:Env}[Stb E z] (he:E.hp=true){g:Gh}{bx:Bx}{ar:Ar}{w:World}(h:Rw z g bx ar w){ks:List Nat}(hnd:nodup ks=true)(hs:qvk ks=true)(hok:okB bx ks):
  Wd (g.bareS ks) (ovS bx (Lx.fp ks bx)) nix w/\∀k b,ovS bx (Lx.fp ks bx) k=some b->1000<=k/\dC b.cells=b.cells:=by
 refine⟨⟨fun j b hj=>?_,fun r sz ty xs hr=>(by cases hr),fun r=>rfl,h.wd.fx,fun j j' b b' hj hj' e=>?_,fun r r' a a' hr=>(by cases hr),fun k r b a hk hr=>(by cases hr),fun j b o hj=>?_,fun r a o hr=>(by cases hr)⟩,fun j b hj=>?_⟩
 · obtain⟨k,b₀,h1,h2,h3,h4⟩:=qvb he h hs hj;obtain⟨vs,h5,h6⟩:=h.wd.box k b₀ h1;rw[h3,h2]
   rcases h4 with⟨rfl,_⟩|⟨rfl,hk,_⟩
   ·exact⟨vs,dC_rp (g:=g) (g':=g.bareS ks) (fun _ _ _ h=>h) h5,h6⟩
   ·obtain⟨b',hb',ds,hds⟩:=zvn hok k hk;rw[h1]at hb';simp only[Option.some.injEq]at hb';subst hb';rw[hds]at h5⊢;exact⟨vs,LRps.ofD h5.toD,h6⟩
 · obtain⟨k,b₀,h1,_,h3,h4⟩:=qvb he h hs hj;obtain⟨k',b₁,h1',_,h3',h4'⟩:=qvb he h hs hj';rw[h3,h3']at e;have e:=h.wd.inj k k' _ _ h1 h1' e;subst e
   rcases h4 with⟨_,e1,h5⟩|⟨_,h5,h6,h7,h8⟩<;>rcases h4' with⟨_,e1',h5'⟩|⟨_,h5',h6',h7',h8'⟩
   ·omega
   ·have:=short_lt hs h5';omega
   ·have:=short_lt hs h5;omega
   ·have:=qv5 hnd h7 h7';omega
 ·obtain⟨k,b₀,h1,_,h3,_⟩:=qvb he h hs hj;rw[h3];exact h.wd.outb k b₀ o h1
 · obtain⟨k,b₀,h1,h2,h3,h4⟩:=qvb he h hs hj
   rcases h4 with⟨rfl,rfl,h5⟩|⟨rfl,hk,_,_,h8⟩
   ·exact⟨by omega,dC_dC _⟩
   · obtain⟨b',hb',ds,hds⟩:=zvn hok k hk;rw[h1]at hb';simp only[Option.some.injEq]at hb';subst hb'
     exact⟨h8,by rw[hds];exact dC_map _⟩
theorem Rw.callS {z:Bg}{E:Env}[Stb E z] (he:E.hp=true){g g':Gh}{bx bx':Bx}{ar:Ar}{w w':World}{ks:List Nat}(hs:qvk ks=true)(h:Rw z g bx ar w)(k:AftS (g.bareS ks) (ovS bx (fp ks bx)) w g' bx' w'):
  Gh.le g {g with Φ:=g'.Φ}/\Rw z {g with Φ:=g'.Φ} (ovS bx' (mrg ks bx' bx)) ar w':=by
 have hl:Gh.le g {g with Φ:=g'.Φ}:=⟨rfl,k.Φ,fun r m' hm=>⟨m',hm,Nat.le_refl _,fun _=>rfl⟩⟩
 have hown:∀b,qxh (g.bareS ks) (ovS bx (fp ks bx)) b->∃j x,(j∈ks\/1000000<=j)/\bx j=some x/\g.β j=b:=fun b ⟨j,x,h1,h2⟩=>by
  obtain⟨k,b₀,h3,_,h4,h5⟩:=qvb he h hs h1;rw[h4]at h2;refine⟨k,b₀,?_,h3,h2⟩
  rcases h5 with⟨_,rfl,h6⟩|⟨_,h6,_⟩
  ·exact .inr h6
  ·exact .inl h6
 have hmine:∀b,qxh (g.bareS ks) (ovS bx (fp ks bx)) b->z.own b\/z.w.heap.size<=b:=fun b hb=>by
  obtain⟨j,x,_,h2,rfl⟩:=hown b hb;exact h.mine.box j x h2
 have keep:∀b,(∃o,w.heap[b]?=some o)->(∀j x,(j∈ks\/1000000<=j)->bx j=some x->g.β j≠b)->w'.heap[b]?=w.heap[b]?:=fun b ⟨o,ho⟩ hn=>
  k.fr.block b (qqv ho) (fun hb=>by obtain⟨j,x,h1,h2,h3⟩:=hown b hb;exact hn j x h1 h2 h3)
 have hΦ:∀b o,(∀j x,(j∈ks\/1000000<=j)->bx j=some x->g.β j≠b)->b<w.heap.size->g.Φ b o=none->g'.Φ b o=none:=fun b o hn hb h0=>by
  cases hv:g'.Φ b o with
  |none=>rfl
  |some v=>
   rcases k.fix b o v hv with h'|h'|h'
   ·have h'':g.Φ b o=some v:=h';rw[h0]at h'';cases h''
   ·obtain⟨j,x,h1,h2,h3⟩:=hown b h';exact absurd h3 (hn j x h1 h2)
   ·omega
 have cas:∀j b,ovS bx' (mrg ks bx' bx) j=some b->(∃i b₀,bx' i=some b₀/\b=b₀/\g'.β i=g.β j/\(i=j/\1000000<=j\/j∈ks/\j<1000000/\i=1000+ixof j ks)/\(qxh (g.bareS ks) (ovS bx (fp ks bx)) (g.β j)\/w.heap.size<=g.β j)/\dC b.cells=b.cells)\/
   (j∉ks/\j<1000000/\bx j=some b):=fun j b hj=>by
  rcases zxd hj with⟨h1,b₀,h2,rfl⟩|⟨h1,h2⟩
  · obtain⟨_,h3,h4,h5⟩:=k.keys j b₀ h2
    have h6:(g.bareS ks).β j=g.β j:=by
     have:=Stb.get he h (j-1000000);rw[Nat.sub_add_cancel h1]at this;simp only[Gh.bareS];rw[if_pos h1,this]
    refine .inl ⟨j,b₀,h2,by rw[h5],h3.trans h6,.inl ⟨rfl,h1⟩,?_,dC_dC _⟩
    rw[<-h6,<-h3];exact h4
  · rcases zzt h2 with⟨h3,h4⟩|⟨h3,h4⟩
    ·obtain⟨_,h5,h6,h7⟩:=k.keys _ b h4;rw[Gh.bareS_ix hs h3]at h5;rw[h5]at h6;exact .inl ⟨_,b,h4,rfl,h5,.inr ⟨h3,h1,rfl⟩,h6,h7⟩
    ·exact .inr ⟨h3,h1,h4⟩
 have away:∀j b,j∉ks->j<1000000->bx j=some b->∀i x,(i∈ks\/1000000<=i)->bx i=some x->g.β i≠g.β j:=fun j b h1 h2 h3 i x h4 h5 e=>by
  have:=h.wd.inj i j _ _ h5 h3 e;subst this
  rcases h4 with h4|h4
  ·exact h1 h4
  ·omega
 have awaya:∀r a,ar r=some a->∀i x,(i∈ks\/1000000<=i)->bx i=some x->g.β i≠(g.α r).1:=fun r a hr i x _ h5 e=>h.wd.injb i r _ _ h5 hr e
 refine⟨hl,⟨?_,?_,h.wd.len,?_,?_,h.wd.inja,?_,?_,?_⟩,h.fr.after k.fr hmine,⟨?_,h.mine.arr,Phi.le_trans h.mine.le k.Φ,?_⟩,h.keys⟩
 · intro j b hj
   rcases cas j b hj with⟨i,b₀,h1,rfl,h2,_,_,h3⟩|⟨h1,h2,h3⟩
   ·obtain⟨vs,h4,h5,h6⟩:=k.wd.box i b h1;rw[h2]at h5;refine⟨vs,?_,h5,h6⟩;rw[<-h3];exact dC_rp (g:=g') (g':={g with Φ:=g'.Φ}) (fun _ _ _ h=>h) h4
   ·obtain⟨vs,h4,h5,h6⟩:=h.wd.box j b h3;refine⟨vs,h4.mono hl,?_,h6⟩;rw[keep (g.β j) ⟨_,h5⟩ (away j b h1 h2 h3)];exact h5
 ·intro r sz ty xs hr;obtain⟨us,c,h1,h2,h3⟩:=h.wd.arr r sz ty xs hr;refine⟨us,c,h1.mono k.Φ,?_,h3⟩;rw[keep (g.α r).1 ⟨_,h2⟩ (awaya r _ hr)];exact h2
 ·exact k.wd.fx
 · intro j j' b b' hj hj' e;have e:g.β j=g.β j':=e
   rcases cas j b hj with⟨i,b₀,h1,rfl,h2,h3,h4,_⟩|⟨h1,h2,h3⟩<;>rcases cas j' b' hj' with⟨i',b₁,h1',rfl,h2',h3',h4',_⟩|⟨h1',h2',h3'⟩
   · have e2:=k.wd.inj i i' _ _ h1 h1' (by rw[h2,h2'];exact e)
     rcases h3 with⟨rfl,h3⟩|⟨h5,h6,rfl⟩<;>rcases h3' with⟨rfl,h3'⟩|⟨h5',h6',rfl⟩
     ·exact e2
     ·have:=zve hs h5';omega
     ·have:=zve hs h5;omega
     · have e3:ixof j ks=ixof j' ks:=by omega
       have e4:=qx5 h5;rw[e3,qx5 h5']at e4;exact(Option.some.inj e4).symm
   · exfalso
     rcases h4 with h4|h4
     ·obtain⟨q,x,h5,h6,h7⟩:=hown _ h4;exact away j' b' h1' h2' h3' q x h5 h6 (h7.trans e)
     ·have:=h.wd.lt_box h3';omega
   · exfalso
     rcases h4' with h4|h4
     ·obtain⟨q,x,h5,h6,h7⟩:=hown _ h4;exact away j b h1 h2 h3 q x h5 h6 (h7.trans e.symm)
     ·have:=h.wd.lt_box h3;omega
   ·exact h.wd.inj j j' _ _ h3 h3' e
 · intro j r b a hj hr e;have e:g.β j=(g.α r).1:=e
   rcases cas j b hj with⟨i,b₀,h1,rfl,h2,_,h4,_⟩|⟨h1,h2,h3⟩
   · rcases h4 with h4|h4
     ·obtain⟨q,x,h5,h6,h7⟩:=hown _ h4;exact awaya r a hr q x h5 h6 (h7.trans e)
     ·have:=h.wd.lt_arr hr;omega
   ·exact h.wd.injb j r _ a h3 hr e
 · intro j b o hj
   rcases cas j b hj with⟨i,b₀,h1,rfl,h2,_⟩|⟨h1,h2,h3⟩
   ·have:=k.wd.outb i b o h1;rw[h2]at this;exact this
   ·exact hΦ (g.β j) o (away j b h1 h2 h3) (h.wd.lt_box h3) (h.wd.outb j b o h3)
 ·intro r a o hr ho;exact hΦ (g.α r).1 o (awaya r a hr) (h.wd.lt_arr hr) (h.wd.outa r a o hr ho)
 · intro j b hj
   rcases cas j b hj with⟨i,b₀,h1,rfl,h2,_,h4,_⟩|⟨h1,h2,h3⟩
   · rcases h4 with h4|h4
     ·exact hmine _ h4
     ·exact .inr (Nat.le_trans h.fr.size h4)
   ·exact h.mine.box j _ h3
 · intro b o v hv
   rcases k.fix b o v hv with h'|h'|h'
   ·exact h.mine.fix b o v h'
   ·exact(hmine b h').elim (fun x=>.inr (.inl x)) (fun x=>.inr (.inr x))
   ·exact .inr (.inr (Nat.le_trans h.fr.size h'))
def OKX (P:Program)(f:FuncId):SpecX->Prop
 |.a Sp=>OK P f Sp
 |.b Sp=>OK3 P f Sp
 |.c Sp=>OKS P f Sp
theorem Rw.adopt {z:Bg}{g:Gh}{bx:Bx}{ar:Ar}{w:World}(h:Rw z g bx ar w){d sz cap B:Nat}{ty:TypeId}{xs:List D}{c:Array Value}(hB:w.heap[B]?=some (.cells c (tyo ty) (0,0)))(hc:qwh g.Φ sz cap xs c)
  (h1:∀k b,bx k=some b->g.β k≠B)(h2:∀r a,ar r=some a->(g.α r).1≠B)(h3:∀o,(1000000<=ty->xs.length*sz<=o)->g.Φ B o=none)(h4:z.own B\/z.w.heap.size<=B):
  Gh.but d g {g with α:=upd d (B,cap) g.α,len:=upd d (some xs.length) g.len}/\
  Rw z {g with α:=upd d (B,cap) g.α,len:=upd d (some xs.length) g.len} (mapf (Box.fgt d) bx) (put d (sz,ty,xs) ar) w:=by
 have hb:Gh.but d g {g with α:=upd d (B,cap) g.α,len:=upd d (some xs.length) g.len}:=⟨fun _ _=>rfl,fun j hj=>qqb _ _ hj,fun j hj=>qqb _ _ hj,Phi.le_refl _⟩
 have hget:∀k b,mapf (Box.fgt d) bx k=some b->∃b₀,bx k=some b₀/\b=b₀.fgt d:=by
  intro k b hk;simp only[mapf,Option.map_eq_some_iff]at hk;obtain⟨b₀,h1,h2⟩:=hk;exact⟨b₀,h1,h2.symm⟩
 have hgeta:∀r a,put d (sz,ty,xs) ar r=some a->(r=d/\a=(sz,ty,xs))\/(r≠d/\ar r=some a):=by
  intro r a hr;by_cases e:r=d
  ·subst e;rw[qz7]at hr;exact .inl ⟨rfl,by simpa using hr.symm⟩
  ·rw[qqr _ _ e]at hr;exact .inr ⟨e,hr⟩
 refine⟨hb,⟨?_,?_,?_,h.wd.fx,?_,?_,?_,?_,?_⟩,h.fr,⟨?_,?_,h.mine.le,h.mine.fix⟩,h.keys⟩
 ·intro k b hk;obtain⟨b₀,hb₀,rfl⟩:=hget k b hk;obtain⟨us,hus,hh,hone⟩:=h.wd.box k b₀ hb₀;exact⟨us,hus.fgts hb,hh,hone⟩
 · intro r sz' ty' xs' hr
   rcases hgeta r _ hr with⟨rfl,e⟩|⟨e,hr'⟩
   · simp only[Prod.mk.injEq]at e;obtain⟨rfl,rfl,rfl⟩:=e;obtain⟨us,h1,h2,h3,h4,h5,h6⟩:=hc
     exact⟨us,c,h1,by simp only[qzv];exact hB,by simp only[qzv];exact h2,by simp only[qzv];exact h3,h4,by simp only[qzv];exact h5,h6⟩
   · obtain⟨us,c',h1,h2,h3⟩:=h.wd.arr r sz' ty' xs' hr';refine⟨us,c',h1,?_,?_⟩
     ·simp only[qqb _ _ e];exact h2
     ·simpa only[qqb _ _ e]using h3
 · intro r;by_cases e:r=d
   ·subst e;simp only[qzv,qz7,Option.map_some]
   ·simp only[qqb _ _ e,qqr _ _ e];exact h.wd.len r
 ·intro k k' b b' hk hk' he;obtain⟨b₀,hb₀,rfl⟩:=hget k b hk;obtain⟨b₁,hb₁,rfl⟩:=hget k' b' hk';exact h.wd.inj k k' _ _ hb₀ hb₁ he
 · intro r r' a a' hr hr' he
   rcases hgeta r a hr with⟨rfl,_⟩|⟨e,q1⟩<;>rcases hgeta r' a' hr' with⟨rfl,_⟩|⟨e',q2⟩
   ·rfl
   ·simp only[qzv,qqb _ _ e']at he;exact absurd he.symm (h2 r' a' q2)
   ·simp only[qzv,qqb _ _ e]at he;exact absurd he (h2 r a q1)
   ·simp only[qqb _ _ e,qqb _ _ e']at he;exact h.wd.inja r r' a a' q1 q2 he
 · intro k r b a hk hr;obtain⟨b₀,hb₀,rfl⟩:=hget k b hk
   rcases hgeta r a hr with⟨rfl,_⟩|⟨e,q1⟩
   ·simp only[qzv];exact h1 k _ hb₀
   ·simp only[qqb _ _ e];exact h.wd.injb k r _ a hb₀ q1
 ·intro k b o hk;obtain⟨b₀,hb₀,rfl⟩:=hget k b hk;exact h.wd.outb k _ o hb₀
 · intro r a o hr ho
   rcases hgeta r a hr with⟨rfl,rfl⟩|⟨e,q1⟩
   ·simp only[qzv];exact h3 o ho
   ·simp only[qqb _ _ e];exact h.wd.outa r a o q1 ho
 ·intro k b hk;obtain⟨b₀,hb₀,rfl⟩:=hget k b hk;exact h.mine.box k _ hb₀
 · intro r a hr
   rcases hgeta r a hr with⟨rfl,_⟩|⟨e,q1⟩
   ·simp only[qzv];exact h4
   ·simp only[qqb _ _ e];exact h.mine.arr r a q1
theorem zqh (ar:Ar):∀(M:List (Nat×Nat)) (r:Nat),pa3 ar M r=(lkp r M).bind ar
 |[],r=>rfl
 |(j,i)::l,r=>by
   unfold pa3 lkp
   cases h:ar i with
   |some a=>
    by_cases e:r=j
    ·subst e;simp[put,h]
    ·simp only[put,if_neg e];exact zqh ar l r
   |none=>
    by_cases e:r=j
    ·subst e;simp[del,h]
    ·simp only[del,if_neg e];exact zqh ar l r
theorem zju (ar':Ar):∀(N:List (Nat×Nat)) (f:Ar) (r:Nat),ab3 ar' N f r=match lkp r N with
  |some r'=>ar' r'
  |none=>f r
 |[],f,r=>rfl
 |(j,i)::l,f,r=>by
   unfold ab3 lkp
   cases h:ar' i with
   |some a=>
    by_cases e:r=j
    ·subst e;simp[put,h]
    ·simp only[put,if_neg e];exact zju ar' l f r
   |none=>
    by_cases e:r=j
    ·subst e;simp[del,h]
    ·simp only[del,if_neg e];exact zju ar' l f r
theorem lkp_none {α:Type}{r:Nat}:∀{l:List (Nat×α)},r∉l.map (·.1)->lkp r l=none
 |[],_=>rfl
 |(j,x)::l,h=>by
   simp only[List.map_cons,List.mem_cons,not_or]at h;unfold lkp;rw[if_neg h.1];exact lkp_none h.2
theorem lkp_of {α:Type}{r:Nat}{x:α}:∀{l:List (Nat×α)},nodup (l.map (·.1))=true->(r,x)∈l->lkp r l=some x
 |(j,y)::l,hn,h=>by
   simp only[List.map_cons,nodup,Bool.and_eq_true,Bool.not_eq_true',List.contains_eq_mem,decide_eq_false_iff_not]at hn;unfold lkp
   cases h with
   |head=>rw[if_pos rfl]
   |tail _ h=>
    have:r≠j:=by rintro rfl;exact hn.1 (List.mem_map.2 ⟨_,h,rfl⟩)
    rw[if_neg this];exact lkp_of hn.2 h
theorem snd_inj {l:List (Nat×Nat)}(hn:nodup (l.map (·.2))=true){r r' i:Nat}(h:(r,i)∈l)(h':(r',i)∈l):r=r':=by
 obtain⟨a,ha⟩:=List.getElem?_of_mem h;obtain⟨b,hb⟩:=List.getElem?_of_mem h';have e:a=b:=qv5 hn (k:=i) (by rw[List.getElem?_map,ha];rfl) (by rw[List.getElem?_map,hb];rfl);subst e;rw[ha]at hb;simpa using hb
theorem delL_in {r:Nat}:∀{F:List Nat} {f:Ar},r∈F->delL F f r=none
 |j::l,f,h=>by
  have hd:∀(l:List Nat) (f:Ar),f r=none->delL l f r=none:=by
   intro l
   induction l with
   |nil=>intro f h;exact h
   |cons k l ih=>
    intro f h;unfold delL;refine ih _ ?_;unfold del;split
    ·rfl
    ·exact h
  unfold delL
  cases h with
  |head=>exact hd l _ (by simp[del])
  |tail _ h=>exact delL_in h
theorem zwf {r:Nat}:∀{F:List Nat} {f:Ar},r∉F->delL F f r=f r
 |[],f,_=>rfl
 |j::l,f,h=>by
  simp only[List.mem_cons,not_or]at h;unfold delL;rw[zwf h.2];simp[del,h.1]
def Agr (F:List Nat)(g g':Gh):Prop:=Phi.le g.Φ g'.Φ/\∀r,r∉F->g'.β r=g.β r/\g'.α r=g.α r/\g'.len r=g.len r
theorem Agr.step {r:Nat}{F:List Nat}{g g':Gh}(h:Agr (r::F) g g'):∃g1,Gh.but r g g1/\Agr F g1 g':=by
 refine⟨{β:=upd r (g'.β r) g.β,Φ:=g.Φ,α:=upd r (g'.α r) g.α,len:=upd r (g'.len r) g.len},⟨fun j hj=>qqb _ _ hj,fun j hj=>qqb _ _ hj,fun j hj=>qqb _ _ hj,Phi.le_refl _⟩,h.1,fun j hj=>?_⟩
 by_cases e:j=r
 ·subst e;simp only[qzv];exact⟨trivial,trivial,trivial⟩
 ·simp only[qqb _ _ e];exact h.2 j (by simp[e,hj])
theorem Agr.le {g g':Gh}(h:Agr [] g g'):Gh.le g g':=⟨funext fun r=>(h.2 r (by simp)).1,h.1,fun r m hm=>⟨m,by rw[<-(h.2 r (by simp)).2.2];exact hm,Nat.le_refl _,fun _=>(h.2 r (by simp)).2.1⟩⟩
theorem zv8 {g':Gh}{k:Nat}{x:LV}:∀{F:List Nat} {g:Gh} {f:Nat->Option LV},Agr F g g'->fgM F f k=some x->∃x0,f k=some x0/\∀v,LRp g x0 v->LRp g' x v
 |[],g,f,h,hk=>⟨x,hk,fun v hv=>hv.mono h.le⟩
 |r::F,g,f,h,hk=>by
  obtain⟨g1,h1,h2⟩:=h.step;obtain⟨x1,hx1,hv1⟩:=zv8 h2 hk;obtain⟨x0,hx0,rfl⟩:=qxm hx1
  exact⟨x0,hx0,fun v hv=>hv1 v (hv.fgt h1)⟩
theorem zz6 {g':Gh}{k:Nat}{b:Box}:∀{F:List Nat} {g:Gh} {f:Bx},Agr F g g'->fgB F f k=some b->∃b0,f k=some b0/\b.ty=b0.ty/\∀vs,LRps g b0.cells vs->LRps g' b.cells vs
 |[],g,f,h,hk=>⟨b,hk,rfl,fun v hv=>hv.mono h.le⟩
 |r::F,g,f,h,hk=>by
  obtain⟨g1,h1,h2⟩:=h.step;obtain⟨x1,hx1,ht1,hv1⟩:=zz6 h2 hk;obtain⟨x0,hx0,rfl⟩:=qxm hx1
  exact⟨x0,hx0,ht1,fun v hv=>hv1 v (hv.fgts h1)⟩
theorem cnC_rp {g g':Gh}(hΦ:Phi.le g.Φ g'.Φ){k:Nat}:∀{cells:List LV} {c:Nat} {vs:List Value},LRps g cells vs->(∀r i,(r,i)∈cnM k c cells->g'.α r=g.α i/\g'.len r=g.len i)->LRps g' (cnC k c cells) vs
 |[],c,vs,h,_=>by cases h;exact .nil
 |x::l,c,vs,h,hm=>by
  cases h with
  |cons hx ht=>
   refine .cons ?_ (cnC_rp hΦ ht fun r i hi=>hm r i ?_)
   · cases hx with
     |d h=>exact .d (h.mono hΦ)
     | @os r sz n v h1 h2=>
       obtain⟨e1,e2⟩:=hm (cn k c) r (by unfold cnM;simp)
       exact .os h1 fun m hm'=>by rw[e1];exact h2 m (by rw[<-e2];exact hm')
     |bp=>exact .un _
     |ap=>exact .un _
     |ep=>exact .un _
     |ag=>exact .un _
     |fn=>exact .un _
     |tup=>exact .un _
     |mp=>exact .un _
     |un=>exact .un _
   · unfold cnM;split
     ·exact List.mem_cons_of_mem _ hi
     ·exact hi
def Gh.bare3 (g:Gh)(ks:List Nat)(M:List (Nat×Nat)):Gh:=
 {β:=fun j=>g.β (ks.getD (j-1000) 0),Φ:=g.Φ,α:=fun r=>g.α ((lkp r M).getD 0),len:=fun r=>(lkp r M).bind g.len}
theorem zz3 {bx:Bx}:∀{ks:List Nat} {i j:Nat} {b:Box},fp3 bx i ks j=some b->1000+i<=j/\∃k b0,ks[j-1000-i]?=some k/\bx k=some b0/\b=⟨cnC j 0 b0.cells,b0.ty⟩/\∀p∈cnM j 0 b0.cells,p∈M3 bx i ks
 |[],i,j,b,h=>by cases h
 |k::ks,i,j,b,h=>by
  unfold fp3 at h
  have tl:∀{b},fp3 bx (i+1) ks j=some b->(∀p,p∈M3 bx (i+1) ks->p∈M3 bx i (k::ks))->1000+i<=j/\∃k' b0,(k::ks)[j-1000-i]?=some k'/\bx k'=some b0/\b=⟨cnC j 0 b0.cells,b0.ty⟩/\∀p∈cnM j 0 b0.cells,p∈M3 bx i (k::ks):=by
   intro b h hs;obtain⟨h1,k',b0,h2,h3,h4,h5⟩:=zz3 h
   refine⟨by omega,k',b0,?_,h3,h4,fun p hp=>hs p (h5 p hp)⟩
   rw[show j-1000-i=(j-1000-(i+1))+1 by omega,List.getElem?_cons_succ]
   exact h2
  cases hb:bx k with
  |some b1=>
   rw[hb]at h
   have hM:∀p,p∈cnM (1000+i) 0 b1.cells\/p∈M3 bx (i+1) ks->p∈M3 bx i (k::ks):=by
    intro p hp;unfold M3;rw[hb];exact List.mem_append.2 hp
   by_cases e:j=1000+i
   · subst e;simp only[qz7,Option.some.injEq]at h;subst h
     exact⟨Nat.le_refl _,k,b1,by rw[show 1000+i-1000-i=0 by omega];rfl,hb,rfl,fun p hp=>hM p (.inl hp)⟩
   ·simp only[qqr _ _ e]at h;exact tl h (fun p hp=>hM p (.inr hp))
  |none=>
   rw[hb]at h;exact tl h (fun p hp=>by unfold M3;rw[hb];exact hp)
mutual
theorem LRp.ren3 {g g':Gh}{ks:List Nat}(hΦ:g'.Φ=g.Φ)(hβ:∀k∈ks,g'.β (1000+ixof k ks)=g.β k){x:LV}{v:Value}(h:LRp g x v)(hk:∀k∈kys x,k∈ks):LRp g' (Lx.ren ks x) v:=by
 cases h with
 |d h=>simp only[Lx.ren];exact .d (hΦ▸h)
 |bp k off=>
  simp only[Lx.ren];rw[<-hβ k (hk k (by simp[kys]))];exact .bp _ _
 |os h1 h=>simp only[Lx.ren];exact .un _
 |ap h1 h=>simp only[Lx.ren];exact .un _
 |ep b o off h hc=>simp only[Lx.ren];exact .ep b o off (hΦ▸h) (fun j c hj=>by rw[hΦ];exact hc j c hj)
 |ag h=>simp only[Lx.ren];exact .ag (h.rens3 hΦ hβ (fun k h'=>hk k (by simpa[kys]using h')))
 |fn f h h'=>simp only[Lx.ren];exact .fn f (h.rens3 hΦ hβ (fun k h'=>hk k (by simp[kys,h']))) (h'.rens3 hΦ hβ (fun k h'=>hk k (by simp[kys,h'])))
 |tup h=>simp only[Lx.ren];exact .tup (h.rens3 hΦ hβ (fun k h'=>hk k (by simpa[kys]using h')))
 |mp k=>
  simp only[Lx.ren];rw[<-hβ k (hk k (by simp[kys]))];exact .mp _
 |un=>simp only[Lx.ren];exact .un _
theorem LRps.rens3 {g g':Gh}{ks:List Nat}(hΦ:g'.Φ=g.Φ)(hβ:∀k∈ks,g'.β (1000+ixof k ks)=g.β k){xs:List LV}{vs:List Value}(h:LRps g xs vs)(hk:∀k∈kyss xs,k∈ks):LRps g' (Lx.rens ks xs) vs:=by
 cases h with
 |nil=>simp only[Lx.rens];exact .nil
 |cons h t=>simp only[Lx.rens];exact .cons (h.ren3 hΦ hβ (fun k h'=>hk k (by simp[kyss,h']))) (t.rens3 hΦ hβ (fun k h'=>hk k (by simp[kyss,h'])))
end
theorem Wd.fpx {g:Gh}{bx:Bx}{ar:Ar}{w:World}(h:Wd g bx ar w){ks:List Nat}(hnd:nodup ks=true)(hm:nodup ((M3 bx 0 ks).map (·.2))=true)(hm1:nodup ((M3 bx 0 ks).map (·.1))=true):
  Wd (g.bare3 ks (M3 bx 0 ks)) (fp3 bx 0 ks) (pa3 ar (M3 bx 0 ks)) w:=by
 have hget:∀{j b},fp3 bx 0 ks j=some b->1000<=j/\∃k b0,ks[j-1000]?=some k/\bx k=some b0/\b=⟨cnC j 0 b0.cells,b0.ty⟩/\(g.bare3 ks (M3 bx 0 ks)).β j=g.β k/\∀p∈cnM j 0 b0.cells,p∈M3 bx 0 ks:=by
  intro j b hj;obtain⟨h1,k,b0,h2,h3,h4,h5⟩:=zz3 hj
  exact ⟨by omega, k, b0, by simpa using h2, h3, h4, by have h2':ks[j-1000]?=some k:=by simpa using h2
                                                        simp[Gh.bare3,h2'],h5⟩
 have hga:∀{r a},pa3 ar (M3 bx 0 ks) r=some a->∃i,lkp r (M3 bx 0 ks)=some i/\ar i=some a/\(g.bare3 ks (M3 bx 0 ks)).α r=g.α i:=by
  intro r a hr;rw[zqh]at hr;obtain⟨i,h1,h2⟩:=Option.bind_eq_some_iff.1 hr
  exact⟨i,h1,h2,by simp[Gh.bare3,h1]⟩
 refine⟨?_,?_,?_,h.fx,?_,?_,?_,?_,?_⟩
 · intro j b hj;obtain⟨h1,k,b0,h2,h3,rfl,h5,h6⟩:=hget hj;obtain⟨vs,q1,q2,q3⟩:=h.box k b0 h3
   refine⟨vs,cnC_rp (g:=g) (g':=g.bare3 ks (M3 bx 0 ks)) (Phi.le_refl _) q1 (fun r i hi=>?_),by rw[h5];exact q2,q3⟩
   have:=lkp_of hm1 (h6 _ hi)
   exact⟨by simp[Gh.bare3,this],by simp[Gh.bare3,this]⟩
 ·intro r sz ty xs hr;obtain⟨i,h1,h2,h3⟩:=hga hr;rw[h3];exact h.arr i sz ty xs h2
 · intro r;rw[zqh]
   show(lkp r (M3 bx 0 ks)).bind g.len=_
   cases hl:lkp r (M3 bx 0 ks)with
   |none=>rfl
   |some i=>exact h.len i
 ·intro j j' b b' hj hj' he;obtain⟨h1,k,b0,h2,h3,rfl,h5,h6⟩:=hget hj;obtain⟨h1',k',b0',h2',h3',rfl,h5',h6'⟩:=hget hj';rw[h5,h5']at he;have e:=h.inj k k' _ _ h3 h3' he;subst e;have:=qv5 hnd h2 h2';omega
 ·intro r r' a a' hr hr' he;obtain⟨i,h1,h2,h3⟩:=hga hr;obtain⟨i',h1',h2',h3'⟩:=hga hr';rw[h3,h3']at he;have e:=h.inja i i' _ _ h2 h2' he;subst e;exact snd_inj hm (qq1 h1) (qq1 h1')
 ·intro j r b a hj hr;obtain⟨h1,k,b0,h2,h3,rfl,h5,h6⟩:=hget hj;obtain⟨i,q1,q2,q3⟩:=hga hr;rw[h5,q3];exact h.injb k i _ _ h3 q2
 ·intro j b o hj;obtain⟨h1,k,b0,h2,h3,rfl,h5,h6⟩:=hget hj;rw[h5];exact h.outb k _ o h3
 ·intro r a o hr ho;obtain⟨i,q1,q2,q3⟩:=hga hr;rw[q3];exact h.outa i _ o q2 ho
theorem zqc {bx':Bx}:∀{ks:List Nat} {i:Nat} {f:Bx} {k:Nat} {b:Box},bb3 bx' i ks f k=some b->
  (∃j b0,ks[j]?=some k/\bx' (1000+i+j)=some b0/\b=⟨cnC k 0 b0.cells,b0.ty⟩/\∀p∈cnM k 0 b0.cells,p∈N3 bx' i ks)\/(k∉ks/\f k=some b)
 |[],i,f,k,b,h=>.inr ⟨by simp,h⟩
 |q::ks,i,f,k,b,h=>by
  unfold bb3 at h
  have tl:bb3 bx' (i+1) ks f k=some b->k≠q->(∀p,p∈N3 bx' (i+1) ks->p∈N3 bx' i (q::ks))->
    (∃j b0,(q::ks)[j]?=some k/\bx' (1000+i+j)=some b0/\b=⟨cnC k 0 b0.cells,b0.ty⟩/\∀p∈cnM k 0 b0.cells,p∈N3 bx' i (q::ks))\/(k∉(q::ks)/\f k=some b):=by
   intro h hne hs
   rcases zqc h with⟨j,b0,h1,h2,h3,h4⟩|⟨h1,h2⟩
   ·exact .inl ⟨j+1,b0,by simpa using h1,by rw[show 1000+i+(j+1)=1000+(i+1)+j by omega];exact h2,h3,fun p hp=>hs p (h4 p hp)⟩
   ·exact .inr ⟨by simp[hne,h1],h2⟩
  cases hb:bx' (1000+i)with
  |some b1=>
   rw[hb]at h
   have hN:∀p,p∈cnM q 0 b1.cells\/p∈N3 bx' (i+1) ks->p∈N3 bx' i (q::ks):=by
    intro p hp;unfold N3;rw[hb];exact List.mem_append.2 hp
   by_cases e:k=q
   · subst e;simp only[qz7,Option.some.injEq]at h
     exact .inl ⟨0,b1,rfl,hb,h.symm,fun p hp=>hN p (.inl hp)⟩
   ·simp only[qqr _ _ e]at h;exact tl h e (fun p hp=>hN p (.inr hp))
  |none=>
   rw[hb]at h;obtain⟨e,h⟩:=qjv h;exact tl h e (fun p hp=>by unfold N3;rw[hb];exact hp)
theorem Rw.call9999 {z:Bg}{g g':Gh}{bx bx':Bx}{ar ar':Ar}{w w':World}{ks:List Nat}(h:Rw z g bx ar w)(hks:nodup ks=true)
  (k:Aft3 (g.bare3 ks (M3 bx 0 ks)) (fp3 bx 0 ks) (pa3 ar (M3 bx 0 ks)) w g' bx' ar' w')(hn1:nodup ((N3 bx' 0 ks).map (·.1))=true)(hn2:nodup ((N3 bx' 0 ks).map (·.2))=true):
  ∃g2,g2.β=g.β/\g2.Φ=g'.Φ/\Agr ((M3 bx 0 ks).map (·.2)++(N3 bx' 0 ks).map (·.1)) g g2/\
   Rw z g2 (bb3 bx' 0 ks (fgB ((M3 bx 0 ks).map (·.2)++(N3 bx' 0 ks).map (·.1)) bx)) (ab3 ar' (N3 bx' 0 ks) (delL ((M3 bx 0 ks).map (·.2)) ar)) w':=by
 generalize hM:M3 bx 0 ks=M at k⊢
 generalize hN:N3 bx' 0 ks=N at hn1 hn2⊢
 have hgb:∀{j b},fp3 bx 0 ks j=some b->∃i b0,i∈ks/\bx i=some b0/\(g.bare3 ks M).β j=g.β i:=by
  intro j b hj;obtain⟨h1,i,b0,h2,h3,_⟩:=zz3 hj
  have h2':ks[j-1000]?=some i:=by simpa using h2
  exact⟨i,b0,List.mem_of_getElem? h2',h3,by simp[Gh.bare3,h2']⟩
 have hga:∀{r a},pa3 ar M r=some a->∃i,(r,i)∈M/\ar i=some a/\(g.bare3 ks M).α r=g.α i:=by
  intro r a hr;rw[zqh]at hr;obtain⟨i,h1,h2⟩:=Option.bind_eq_some_iff.1 hr
  exact⟨i,qq1 h1,h2,by simp[Gh.bare3,h1]⟩
 have hown:∀b,own3 (g.bare3 ks M) (fp3 bx 0 ks) (pa3 ar M) b->(∃j x,j∈ks/\bx j=some x/\g.β j=b)\/∃r a,r∈M.map (·.2)/\ar r=some a/\(g.α r).1=b:=by
  rintro b (⟨j,x,h1,h2⟩|⟨r,a,h1,h2⟩)
  ·obtain⟨i,b0,h3,h4,h5⟩:=hgb h1;exact .inl ⟨i,b0,h3,h4,h5▸h2⟩
  ·obtain⟨i,h3,h4,h5⟩:=hga h1;exact .inr ⟨i,a,List.mem_map.2 ⟨_,h3,rfl⟩,h4,h5▸h2⟩
 have hmine:∀b,own3 (g.bare3 ks M) (fp3 bx 0 ks) (pa3 ar M) b->z.own b\/z.w.heap.size<=b:=fun b hb=>by
  rcases hown b hb with⟨j,x,_,h2,rfl⟩|⟨r,a,_,h2,rfl⟩
  ·exact h.mine.box j x h2
  ·exact h.mine.arr r a h2
 have hlt:∀b,own3 (g.bare3 ks M) (fp3 bx 0 ks) (pa3 ar M) b->b<w.heap.size:=fun b hb=>by
  rcases hown b hb with⟨j,x,_,h2,rfl⟩|⟨r,a,_,h2,rfl⟩
  ·exact h.wd.lt_box h2
  ·exact h.wd.lt_arr h2
 have hbo:∀{j x},j∉ks->bx j=some x->¬own3 (g.bare3 ks M) (fp3 bx 0 ks) (pa3 ar M) (g.β j):=by
  intro j x hj hx hb
  rcases hown _ hb with⟨i,y,h1,h2,h3⟩|⟨r,a,h1,h2,h3⟩
  ·exact hj (by rw[<-h.wd.inj i j _ _ h2 hx h3];exact h1)
  ·exact h.wd.injb j r _ _ hx h2 h3.symm
 have hao:∀{r a},r∉M.map (·.2)->ar r=some a->¬own3 (g.bare3 ks M) (fp3 bx 0 ks) (pa3 ar M) (g.α r).1:=by
  intro r a hr ha hb
  rcases hown _ hb with⟨i,y,h1,h2,h3⟩|⟨r',a',h1,h2,h3⟩
  ·exact h.wd.injb i r _ _ h2 ha h3
  ·exact hr (by rw[<-h.wd.inja r' r _ _ h2 ha h3];exact h1)
 have keep:∀b,(∃o,w.heap[b]?=some o)->¬own3 (g.bare3 ks M) (fp3 bx 0 ks) (pa3 ar M) b->w'.heap[b]?=w.heap[b]?:=fun b ⟨o,ho⟩ hn=>k.fr.block b (qqv ho) hn
 have hΦ:∀b o,¬own3 (g.bare3 ks M) (fp3 bx 0 ks) (pa3 ar M) b->b<w.heap.size->g.Φ b o=none->g'.Φ b o=none:=fun b o hn hb h0=>by
  cases hv:g'.Φ b o with
  |none=>rfl
  |some v=>
   rcases k.fix b o v hv with h'|h'|h'
   ·have h'':g.Φ b o=some v:=h';rw[h0]at h'';cases h''
   ·exact absurd h' hn
   ·omega
 have har:∀{r a},ab3 ar' N (delL (M.map (·.2)) ar) r=some a->(∃r',(r,r')∈N/\lkp r N=some r'/\ar' r'=some a)\/(r∉N.map (·.1)/\r∉M.map (·.2)/\ar r=some a/\lkp r N=none):=by
  intro r a hr;rw[zju]at hr
  cases hl:lkp r N with
  |some r'=>rw[hl]at hr;exact .inl ⟨r',qq1 hl,rfl,hr⟩
  |none=>
   rw[hl]at hr;have hr:delL (M.map (·.2)) ar r=some a:=hr;by_cases e:r∈M.map (·.2)
   ·rw[delL_in e]at hr;cases hr
   · rw[zwf e]at hr
     refine .inr ⟨fun hm=>?_,e,hr,rfl⟩
     obtain⟨⟨r1,r2⟩,hm1,rfl⟩:=List.mem_map.1 hm;rw[lkp_of hn1 hm1]at hl;cases hl
 have hAgr:Agr (M.map (·.2)++N.map (·.1)) g {β:=g.β,Φ:=g'.Φ,α:=fun r=>match lkp r N with|some r'=>g'.α r'|none=>g.α r,len:=fun r=>(ab3 ar' N (delL (M.map (·.2)) ar) r).map (·.2.2.length)}:=by
  refine⟨k.Φ,fun r hr=>?_⟩
  simp only[List.mem_append,not_or]at hr;have hl:=lkp_none hr.2
  refine⟨rfl,by simp only[hl],?_⟩
  show(ab3 ar' N (delL (M.map (·.2)) ar) r).map (·.2.2.length)=_
  rw[zju,hl,h.wd.len r];simp only;rw[zwf hr.1]
 have hbx:∀{j b},bb3 bx' 0 ks (fgB (M.map (·.2)++N.map (·.1)) bx) j=some b->∃b0,bx j=some b0:=by
  intro j b hj
  rcases zqc hj with⟨i,b0,h1,h2,_⟩|⟨h1,h2⟩
  · obtain⟨hge,⟨b₀,hb₀⟩,_⟩:=k.keys _ b0 h2;obtain⟨_,i',b1,h3,h4,_⟩:=zz3 hb₀
    rw[show 1000+0+i-1000-0=i by omega,h1]at h3
    simp only[Option.some.injEq]at h3;subst h3;exact⟨b1,h4⟩
  ·obtain⟨b0,h3,_⟩:=zz6 hAgr h2;exact⟨b0,h3⟩
 have hβ:∀{i j b0},ks[i]?=some j->bx' (1000+0+i)=some b0->g'.β (1000+0+i)=g.β j:=by
  intro i j b0 h1 h2;rw[(k.keys _ b0 h2).2.2];simp[Gh.bare3,h1]
 refine⟨_,?_,?_,hAgr,⟨?_,?_,fun r=>rfl,?_,?_,?_,?_,?_,?_⟩,h.fr.after k.fr hmine,⟨?_,?_,Phi.le_trans h.mine.le k.Φ,?_⟩,h.keys⟩
 ·rfl
 ·rfl
 · intro j b hj
   rcases zqc hj with⟨i,b0,h1,h2,rfl,h4⟩|⟨h1,h2⟩
   · obtain⟨vs,q1,q2,q3⟩:=k.wd.box _ b0 h2;rw[hN]at h4;refine⟨vs,?_,?_,q3⟩
     · refine cnC_rp (g:=g') ?_ q1 (fun r i hi=>?_)
       ·exact fun _ _ _ h=>h
       have hl:=lkp_of hn1 (h4 _ hi)
       refine⟨by simp only[hl],?_⟩
       show(ab3 ar' N (delL (M.map (·.2)) ar) r).map (·.2.2.length)=_
       rw[zju,hl,k.wd.len]
     ·rw[hβ h1 h2]at q2;exact q2
   · obtain⟨b0,h3,h4,h5⟩:=zz6 hAgr h2;obtain⟨vs,q1,q2,q3⟩:=h.wd.box j b0 h3;refine⟨vs,h5 vs q1,?_,q3⟩;rw[h4]
     show w'.heap[g.β j]?=_
     rw[keep (g.β j) ⟨_,q2⟩ (hbo h1 h3)];exact q2
 · intro r sz ty xs hr
   rcases har hr with⟨r',h1,h2,h3⟩|⟨h1,h2,h3,h4⟩
   ·simp only[h2];exact k.wd.arr r' sz ty xs h3
   ·obtain⟨us,c,q1,q2,q3⟩:=h.wd.arr r sz ty xs h3;simp only[h4];refine⟨us,c,q1.mono k.Φ,?_,q3⟩;rw[keep (g.α r).1 ⟨_,q2⟩ (hao h2 h3)];exact q2
 ·exact k.wd.fx
 ·intro j j' b b' hj hj' he;obtain⟨_,h1⟩:=hbx hj;obtain⟨_,h2⟩:=hbx hj';exact h.wd.inj j j' _ _ h1 h2 he
 · intro r1 r2 a a' h1 h2 he
   rcases har h1 with⟨r1',p1,p2,p3⟩|⟨p1,p2,p3,p4⟩<;>rcases har h2 with⟨r2',q1,q2,q3⟩|⟨q1,q2,q3,q4⟩
   ·simp only[p2,q2]at he;have e:=k.wd.inja r1' r2' _ _ p3 q3 he;subst e;exact snd_inj hn2 p1 q1
   · simp only[p2,q4]at he
     rcases k.arr r1' _ p3 with hb|hb
     ·rw[he]at hb;exact absurd hb (hao q2 q3)
     ·have:=h.wd.lt_arr q3;omega
   · simp only[p4,q2]at he
     rcases k.arr r2' _ q3 with hb|hb
     ·rw[<-he]at hb;exact absurd hb (hao p2 p3)
     ·have:=h.wd.lt_arr p3;omega
   ·simp only[p4,q4]at he;exact h.wd.inja r1 r2 _ _ p3 q3 he
 · intro j r b a hj hr
   rcases har hr with⟨r',p1,p2,p3⟩|⟨p1,p2,p3,p4⟩
   · simp only[p2]
     rcases zqc hj with⟨i,b0,h1,h2,rfl,h4⟩|⟨h1,h2⟩
     ·have:=k.wd.injb _ r' b0 _ h2 p3;rw[hβ h1 h2]at this;exact this
     · obtain⟨b0,h3,_⟩:=zz6 hAgr h2;intro he;have he:g.β j=(g'.α r').1:=he
       rcases k.arr r' _ p3 with hb|hb
       ·rw[<-he]at hb;exact absurd hb (hbo h1 h3)
       ·have:=h.wd.lt_box h3;omega
   ·simp only[p4];obtain⟨_,h1⟩:=hbx hj;exact h.wd.injb j r _ _ h1 p3
 · intro j b o hj
   rcases zqc hj with⟨i,b0,h1,h2,rfl,h4⟩|⟨h1,h2⟩
   ·have:=k.wd.outb _ b0 o h2;rw[hβ h1 h2]at this;exact this
   ·obtain⟨b0,h3,_⟩:=zz6 hAgr h2;exact hΦ (g.β j) o (hbo h1 h3) (h.wd.lt_box h3) (h.wd.outb j b0 o h3)
 · intro r a o hr ho
   rcases har hr with⟨r',p1,p2,p3⟩|⟨p1,p2,p3,p4⟩
   ·simp only[p2];exact k.wd.outa r' a o p3 ho
   ·simp only[p4];exact hΦ _ o (hao p2 p3) (h.wd.lt_arr p3) (h.wd.outa r a o p3 ho)
 ·intro j b hj;obtain⟨_,h1⟩:=hbx hj;exact h.mine.box j _ h1
 · intro r a hr
   rcases har hr with⟨r',p1,p2,p3⟩|⟨p1,p2,p3,p4⟩
   · simp only[p2]
     rcases k.arr r' _ p3 with hb|hb
     ·exact hmine _ hb
     ·exact .inr (Nat.le_trans h.fr.size hb)
   ·simp only[p4];exact h.mine.arr r a p3
 · intro b o v hv
   rcases k.fix b o v hv with h'|h'|h'
   ·exact h.mine.fix b o v h'
   ·exact(hmine b h').elim (fun x=>.inr (.inl x)) (fun x=>.inr (.inr x))
   ·exact .inr (.inr (Nat.le_trans h.fr.size h'))
theorem zj9 {f:Nat->Option LV}{d k:Nat}{x y:LV}(h:put d x f k=some y):(k=d/\y=x)\/(k≠d/\f k=some y):=by
 by_cases e:k=d
 ·subst e;rw[qz7]at h;exact .inl ⟨rfl,by simpa using h.symm⟩
 ·rw[qqr _ _ e]at h;exact .inr ⟨e,h⟩
theorem R.pt {z:Bg}{g:Gh}{ds:List Deferred}{s:S}{a:Act}{w:World}(h:R z g ds s a w){d:Option Tmp}(hd:dOk s d){x:LV}{v:Value}(hx:LRp g x v):R z g ds (s.pt d x) (a.put d v) w:=by
 cases d with
 |none=>exact h
 |some d=>
  have hd':d<a.tmps.size:=by rw[h.size];exact hd
  refine⟨by simp[Act.put,S.pt,h.size],h.defers,fun k y hk=>?_,h.rw⟩
  rcases zj9 hk with⟨rfl,rfl⟩|⟨e,hk'⟩
  ·exact⟨hd,by simpa[Act.put,Array.getD,hd']using hx⟩
  · obtain⟨h1,h2⟩:=h.tm k y hk';refine⟨h1,?_⟩
    have:(a.put (some d) v).tmps.getD k undef=a.tmps.getD k undef:=by
     simp only[Act.put];rw[Array.getD_eq_getD_getElem?,Array.getD_eq_getD_getElem?,Array.getElem?_setIfInBounds,if_neg (fun e'=>e e'.symm)]
    rw[this];exact h2
section
variable {P:Program}{E:Env}{sp:FuncId->Option SpecX}{z:Bg}[Stb E z] {g:Gh}{ds:List Deferred}{s:S}{a:Act}{w:World}
theorem callK_run (hsp:∀f Sp,sp f=some Sp->OKX P f Sp)(hR:R z g ds s a w){o:Oper}{fo:Operand}{args:Array Operand}{tys:Array TypeId}(ho:o.op=.call {callee:=.value fo,args:=args,argTypes:=tys})
  {fv:LV}(hf:LRp g fv (a.eval fo)){as:List LV}(has:LRps g as (args.toList.map a.eval)){K:S->Prop}{Kp:D->S->Prop}(h:callK E sp s o.dst fv as K Kp){next:Act->World->Prop}{Q:Exit->Act->World->Prop}
  (hn:∀g' s' a' w',K s'->R z g' ds s' a' w'->next a' w')
  (hp:∀g' d v s' w',Kp d s'->Rp g'.Φ d v->R z g' ds s' a w'->Q (.panic [{v:=v,recovered:=false}]) a w'):o.wp P a w next Q:=by
 unfold callK at h;split at h
 · rename_i f first cap
   obtain⟨X,hS,h⟩:=h;cases hfv:a.eval fo<;>rw[hfv]at hf<;>cases hf;rename_i us vs hus hvs
   cases X with
   |c Sp=>
    have hok:OKS P f Sp:=hsp f _ hS;have h:callC E Sp s o.dst (first++as++cap) K Kp:=h;obtain⟨he,h⟩:=h;obtain⟨g1,bs,s1,⟨hnd,hsh,hokb,h1⟩,hR1,hl1,hbs,hs1⟩:=zv6 hR ((hus.append has).append hvs) h
    have hex:(execOp a.eval o).run P w=.ok (.enter f (us++args.toList.map a.eval++vs).toArray) w:=by
     simp only[execOp,ho,resolve,Sem.run_bind,hfv,Deferred.ofValue,Sem.run_pure,Result.andThen_ok,invoke];rw[<-hok.enters]
     congr 2
     apply Array.ext';simp
    unfold Oper.wp;rw[hex,Oper.upon_enter];obtain⟨hwf,hnm⟩:=Wd.fpS he hR1.rw hnd hsh hokb;refine(hok.calls _ _ _ _ h1 (g1.bareS (ddp (kyss bs))) _ w (fun k hk=>if_pos hk) hnm (hbs.rensS hsh (fun _ h=>zqj h)) hwf).mono ?_
    rintro e w' ⟨g',⟨x,v,bx',rfl,⟨hd,hK⟩,hx,hA⟩|⟨d,v,bx',rfl,hK,hd,hA⟩⟩
    ·obtain⟨hl2,hw2⟩:=Rw.callS he hsh hR1.rw hA;have hR2:=hR1.turn hl2 hw2;exact hn _ _ _ _ hK (hR2.pt (d:=o.dst) (by unfold dOk at hd⊢;rw[hs1.1];exact hd) (LRp.rn (g:=g') (g':={g1 with Φ:=g'.Φ}) (o:=none) (fun _ _ _ h=>h) (fun d e=>by cases e) hx))
    ·obtain⟨hl2,hw2⟩:=Rw.callS he hsh hR1.rw hA;exact hp {g1 with Φ:=g'.Φ} _ _ _ _ hK hd (hR1.turn hl2 hw2)
   |b Sp=>
    have hok:OK3 P f Sp:=hsp f _ hS;have h:callB Sp s o.dst (first++as++cap) K Kp:=h;obtain⟨g1,bs,s1,⟨hnd,hm2,hm1,h1⟩,hR1,hl1,hbs,hs1⟩:=lndA_run hR ((hus.append has).append hvs) h
    have hex:(execOp a.eval o).run P w=.ok (.enter f (us++args.toList.map a.eval++vs).toArray) w:=by
     simp only[execOp,ho,resolve,Sem.run_bind,hfv,Deferred.ofValue,Sem.run_pure,Result.andThen_ok,invoke];rw[<-hok.enters]
     congr 2
     apply Array.ext';simp
    unfold Oper.wp;rw[hex,Oper.upon_enter];refine(hok.calls _ _ _ _ _ h1 (g1.bare3 (ddp (kyss bs)) (M3 s1.bx 0 (ddp (kyss bs)))) _ w (LRps.rens3 (g:=g1) (g':=g1.bare3 (ddp (kyss bs)) (M3 s1.bx 0 (ddp (kyss bs)))) rfl (fun k hk=>by simp[Gh.bare3,qx5 hk]) hbs (fun _ h=>zqj h)) (hR1.wd.fpx hnd hm2 hm1)).mono ?_
    rintro e w' ⟨g',⟨x,v,bx',ar',rfl,⟨hd,hn1,hn2,hK⟩,hx,hA⟩|⟨d,v,bx',rfl,⟨hn0,hK⟩,hd,hA⟩⟩
    · obtain⟨g2,eβ,eΦ,hAgr,hw⟩:=hR1.rw.call9999 hnd hA hn1 hn2
      have hR2:R z g2 ds {n:=s1.n,tm:=fgM ((M3 s1.bx 0 (ddp (kyss bs))).map (·.2)++(N3 bx' 0 (ddp (kyss bs))).map (·.1)) s1.tm,bx:=bb3 bx' 0 (ddp (kyss bs)) (fgB ((M3 s1.bx 0 (ddp (kyss bs))).map (·.2)++(N3 bx' 0 (ddp (kyss bs))).map (·.1)) s1.bx),ar:=ab3 ar' (N3 bx' 0 (ddp (kyss bs))) (delL ((M3 s1.bx 0 (ddp (kyss bs))).map (·.2)) s1.ar)} a w':=by
       refine⟨hR1.size,hR1.defers,fun k y hk=>?_,hw⟩
       obtain⟨y0,h3,h4⟩:=zv8 hAgr hk;exact⟨(hR1.tm k y0 h3).1,h4 _ (hR1.tm k y0 h3).2⟩
      refine hn _ _ _ _ hK (hR2.pt (d:=o.dst) (by unfold dOk at hd⊢;exact hd) (LRp.rn (g:=g') (g':=g2) (o:=none) (by rw[eΦ];exact Phi.le_refl _) (fun d e=>by cases e) hx))
    · obtain⟨g2,eβ,eΦ,hAgr,hw⟩:=hR1.rw.call9999 hnd hA (by rw[hn0];rfl) (by rw[hn0];rfl);rw[hn0]at hw hAgr
      refine hp g2 _ _ _ _ hK (by rw[eΦ];exact hd) ⟨hR1.size,hR1.defers,fun k y hk=>?_,hw⟩
      obtain⟨y0,h3,h4⟩:=zv8 hAgr hk;exact⟨(hR1.tm k y0 h3).1,h4 _ (hR1.tm k y0 h3).2⟩
   |a Sp=>
   have hok:OK P f Sp:=hsp f _ hS;have h:callA Sp s o.dst (first++as++cap) K Kp:=h;unfold callA at h;obtain⟨g1,bs,s1,⟨hnd,hokb,h1⟩,hR1,hl1,hbs,hs1⟩:=zv6 hR ((hus.append has).append hvs) h
   have hex:(execOp a.eval o).run P w=.ok (.enter f (us++args.toList.map a.eval++vs).toArray) w:=by
    simp only[execOp,ho,resolve,Sem.run_bind,hfv,Deferred.ofValue,Sem.run_pure,Result.andThen_ok,invoke];rw[<-hok.enters]
    congr 2
    apply Array.ext';simp
   unfold Oper.wp;rw[hex,Oper.upon_enter];refine(hok.calls _ _ _ _ h1 (g1.bare (ddp (kyss bs))) _ w (hbs.rens (fun _ h=>zqj h)) (hR1.wd.fp hnd hokb)).mono ?_
   rintro e w' ⟨g',⟨x,v,bx',a1,rfl,⟨hd,hK⟩,hx,hA⟩|⟨d,v,bx',rfl,hK,hd,hA⟩⟩
   · obtain ⟨hl2,hw2⟩:=hR1.rw.call hA;have hR2:=hR1.turn hl2 hw2
     have hd1:dOk s1 o.dst:=by unfold dOk at hd⊢;rw[hs1.1];exact hd
     simp only
     have plain:∀d',o.dst=d'->K (S.pt {s1 with bx:=mrg (ddp (kyss bs)) bx' s1.bx} d' (rn none x))->next (a.put o.dst v) w':=by
      rintro d' rfl hK';exact hn _ _ _ _ hK' (hR2.pt (d:=o.dst) hd1 (LRp.rn (g:=g') (g':={g1 with Φ:=g'.Φ}) (o:=none) (fun _ _ _ h=>h) (fun d e=>by cases e) hx))
     unfold S.ret at hK;split at hK
     · rename_i q a1 dst a0 d hdd;obtain⟨sz,ty,xs⟩:=a0;obtain⟨vs',c,q1,q2,q3,q4,q5,q6,q7⟩:=hA.wd.arr 0 sz ty xs rfl;have hlen:=hA.wd.len 0;have hB:=hA.arr _ rfl
       have hown:∀b,qxh (g1.bare (ddp (kyss bs))) (fp (ddp (kyss bs)) s1.bx) b->∃j x,j∈ddp (kyss bs)/\s1.bx j=some x/\g1.β j=b:=fun b ⟨j,x,h1,h2⟩=>by
        obtain⟨_,i,h3,h4⟩:=qv7 h1;rw[Gh.bare_β h3]at h2;exact⟨i,x,List.mem_of_getElem? h3,h4,h2⟩
       obtain ⟨hb3,hw3⟩:=hw2.adopt (d:=d) (ty:=ty) (cap:=(g'.α 0).2) q2 ⟨vs',q1,q3,q4,q5,q6,q7⟩
        (fun k b hk he=>by
          rcases zzt hk with⟨e1,e2⟩|⟨e1,e2⟩
          ·have:=hA.wd.injb _ 0 b _ e2 rfl;rw[(hA.keys _ b e2).2.1,Gh.bare_β (k:=k) (by rw[Nat.add_sub_cancel_left];exact qx5 e1)]at this;exact this he
          · rcases hB with hB|hB
            ·obtain⟨j,x,h3,h4,h5⟩:=hown _ hB;exact e1 (by rw[<-hR1.wd.inj j k _ _ h4 e2 (h5.trans he.symm)];exact h3)
            · have:=hR1.wd.lt_box e2;have he':g1.β k=(g'.α 0).1:=he
              omega)
        (fun r a' hr he=>by
          have he':(g1.α r).1=(g'.α 0).1:=he
          rcases hB with hB|hB
          ·obtain⟨j,x,h3,h4,h5⟩:=hown _ hB;exact hR1.wd.injb j r _ _ h4 hr (h5.trans he'.symm)
          · have:=hR1.wd.lt_arr hr
            omega)
        (fun o' ho=>hA.wd.outa 0 _ o' rfl ho)
        (hB.elim (fun hB=>by obtain⟨j,x,h3,h4,h5⟩:=hown _ hB;rw[<-h5];exact hR1.rw.mine.box j x h4) (fun hB=>.inr (Nat.le_trans hR1.rw.fr.size hB)))
       refine hn {β:=g1.β,Φ:=g'.Φ,α:=upd d ((g'.α 0).1,(g'.α 0).2) g1.α,len:=upd d (some xs.length) g1.len} _ (a.put o.dst v) _ hK ?_
       have hdn:d<s1.n:=by have:=hd1;rw[hdd]at this;exact this
       have hda:d<a.tmps.size:=by rw[hR1.size];exact hdn
       rw[hdd]
       refine⟨by simp[Act.put,hR1.size],hR1.defers,fun k y hk=>?_,hw3⟩
       rcases zj9 hk with⟨rfl,rfl⟩|⟨e,hk'⟩
       · refine⟨hdn,?_⟩
         have:(a.put (some k) v).tmps.getD k undef=v:=by simp[Act.put,Array.getD,hda]
         rw[this];refine LRp.rn (g:=g') (g':={β:=g1.β,Φ:=g'.Φ,α:=upd k ((g'.α 0).1,(g'.α 0).2) g1.α,len:=upd k (some xs.length) g1.len}) (o:=some k) (fun _ _ _ h=>h) (fun d' e=>?_) hx;simp only[Option.some.injEq]at e;subst e
         exact⟨by simp only[qzv];exact hlen.symm,by simp only[qzv]⟩
       · simp only[mapf,Option.map_eq_some_iff]at hk';obtain⟨y₀,hy₀,rfl⟩:=hk';obtain⟨h3,h4⟩:=hR2.tm k y₀ hy₀;refine⟨h3,?_⟩
         have:(a.put (some d) v).tmps.getD k undef=a.tmps.getD k undef:=by
          simp only[Act.put];rw[Array.getD_eq_getD_getElem?,Array.getD_eq_getD_getElem?,Array.getElem?_setIfInBounds,if_neg (fun e'=>e e'.symm)]
         rw[this];exact h4.fgt hb3
     ·exact plain _ rfl hK
   ·obtain⟨hl2,hw2⟩:=hR1.rw.call hA;exact hp {g1 with Φ:=g'.Φ} _ _ _ _ hK hd (hR1.turn hl2 hw2)
 ·exact h.elim
theorem Rw.newS {w':World}{bx:Bx}{ar:Ar}(he:E.hp=true)(h:Rw z g bx ar w){cs:List LV}{vs:List Value}{ty:TypeId}(n:New w w' (qv4 ty vs))(hc:LRps g cs vs)(h1:∀v∈vs,v.oneCell'=true):
  Rw z g (put (w.heap.size+1000000) ⟨cs,ty⟩ bx) ar w':=by
 have hβ:g.β (w.heap.size+1000000)=w.heap.size:=Stb.get he h _
 have hget:∀k b,put (w.heap.size+1000000) ⟨cs,ty⟩ bx k=some b->(k=w.heap.size+1000000/\b=⟨cs,ty⟩)\/(k≠w.heap.size+1000000/\bx k=some b):=by
  intro k b hk;by_cases e:k=w.heap.size+1000000
  ·subst e;rw[qz7]at hk;exact .inl ⟨rfl,by simpa using hk.symm⟩
  ·rw[qqr _ _ e]at hk;exact .inr ⟨e,hk⟩
 refine⟨⟨?_,?_,h.wd.len,?_,?_,h.wd.inja,?_,?_,h.wd.outa⟩,h.fr.new n,⟨?_,h.mine.arr,h.mine.le,h.mine.fix⟩,h.keys⟩
 · intro k b hk
   rcases hget k b hk with⟨rfl,rfl⟩|⟨e,hb⟩
   ·exact⟨vs,hc,by rw[hβ];exact n.new,h1⟩
   · obtain⟨us,hus,hh,hone⟩:=h.wd.box k b hb
     exact⟨us,hus,by rw[n.old _ (qqv hh)];exact hh,hone⟩
 · intro r sz ty' xs hr;obtain⟨us,c,h1,h2,h3⟩:=h.wd.arr r sz ty' xs hr
   exact⟨us,c,h1,by rw[n.old _ (qqv h2)];exact h2,h3⟩
 · refine⟨fun b o v hv=>?_,h.wd.glo⟩
   rw[qxi (n.old b (h.wd.lt_fix hv))];exact h.wd.fix b o v hv
 · intro k k' b b' hk hk' he'
   rcases hget k b hk with⟨rfl,rfl⟩|⟨e,hb⟩<;>rcases hget k' b' hk' with⟨rfl,rfl⟩|⟨e',hb'⟩
   ·rfl
   ·rw[hβ]at he';have:=h.wd.lt_box hb';omega
   ·rw[hβ]at he';have:=h.wd.lt_box hb;omega
   ·exact h.wd.inj k k' _ _ hb hb' he'
 · intro k r b a hk hr
   rcases hget k b hk with⟨rfl,rfl⟩|⟨e,hb⟩
   ·rw[hβ];have:=h.wd.lt_arr hr;omega
   ·exact h.wd.injb k r _ a hb hr
 · intro k b o hk
   rcases hget k b hk with⟨rfl,rfl⟩|⟨e,hb⟩
   ·rw[hβ];exact h.wd.fix_none (Nat.le_refl _)
   ·exact h.wd.outb k _ o hb
 · intro k b hk
   rcases hget k b hk with⟨rfl,rfl⟩|⟨e,hb⟩
   ·rw[hβ];exact .inr h.fr.size
   ·exact h.mine.box k _ hb
theorem zwj (hR:R z g ds s a w){d:Option Tmp}{t:TypeId}{i:TI}{cs:List LV}{vs:List Value}(hc:LRps g cs vs){K:S->Prop}(h:boxK E s d t i cs K){next:Act->World->Prop}
  (hn:∀g' s' a' w',K s'->R z g' ds s' a' w'->next a' w'):next (a.put d (.pointer (some ⟨w.heap.size,0,none⟩))) (w.alloc (.cells vs.toArray t)):=by
 unfold boxK at h;split at h
 · rename_i d;obtain⟨hd,h1000,hty,hone,hK⟩:=h
   have hda:d<a.tmps.size:=by rw[hR.size];exact hd
   have hones:∀v∈vs,v.oneCell'=true:=by
    intro v hv;obtain⟨i,hi⟩:=List.getElem?_of_mem hv;obtain⟨x,hx,hr⟩:=hc.get' hi;exact zxz hr (List.all_eq_true.1 hone x (List.mem_of_getElem? hx))
   split at hK
   · obtain⟨he,hK⟩:=hK
     have hno:s.bx (w.heap.size+1000000)=none:=by
      cases hb:s.bx (w.heap.size+1000000)with
      |none=>rfl
      |some b=>
       have:=hR.wd.lt_box hb;rw[Stb.get he hR.rw]at this;omega
     have hw:=Rw.newS he hR.rw (ty:=t) (by rw[qqq hty];exact New.alloc w (.cells vs.toArray t (0,0))) hc hones
     refine hn g _ _ _ (hK _ hno) ⟨by simp[Act.put,hR.size,S.nS],hR.defers,fun k y hk=>?_,hw⟩
     rcases zj9 hk with⟨rfl,rfl⟩|⟨e,hk'⟩
     · refine⟨hd,?_⟩
       have:(a.put (some k) (.pointer (some ⟨w.heap.size,0,none⟩))).tmps.getD k undef=.pointer (some ⟨w.heap.size,0,none⟩):=by simp[Act.put,Array.getD,hda]
       rw[this];exact .d (.imm _)
     · obtain⟨h3,h4⟩:=hR.tm k y hk';refine⟨h3,?_⟩
       have:(a.put (some d) (.pointer (some ⟨w.heap.size,0,none⟩))).tmps.getD k undef=a.tmps.getD k undef:=by
        simp only[Act.put];rw[Array.getD_eq_getD_getElem?,Array.getD_eq_getD_getElem?,Array.getElem?_setIfInBounds,if_neg (fun e'=>e e'.symm)]
       rw[this];exact h4
   obtain⟨hb,hw⟩:=hR.rw.newBox h1000 (ty:=t) (by rw[qqq hty];exact New.alloc w (.cells vs.toArray t (0,0))) hc hones;refine hn {g with β:=upd d w.heap.size g.β} _ _ _ hK ?_
   refine⟨by simp[Act.put,hR.size,S.nb],hR.defers,fun k y hk=>?_,hw⟩
   rcases zj9 hk with⟨rfl,rfl⟩|⟨e,hk'⟩
   · refine⟨hd,?_⟩
     have:(a.put (some k) (.pointer (some ⟨w.heap.size,0,none⟩))).tmps.getD k undef=.pointer (some ⟨w.heap.size,0,none⟩):=by simp[Act.put,Array.getD,hda]
     rw[this];have:=LRp.bp (g:={g with β:=upd k w.heap.size g.β}) k 0;simpa[qzv]using this
   · simp only[mapf,Option.map_eq_some_iff]at hk';obtain⟨y₀,hy₀,rfl⟩:=hk';obtain⟨h3,h4⟩:=hR.tm k y₀ hy₀;refine⟨h3,?_⟩
     have:(a.put (some d) (.pointer (some ⟨w.heap.size,0,none⟩))).tmps.getD k undef=a.tmps.getD k undef:=by
      simp only[Act.put];rw[Array.getD_eq_getD_getElem?,Array.getD_eq_getD_getElem?,Array.getElem?_setIfInBounds,if_neg (fun e'=>e e'.symm)]
     rw[this];exact h4.fgt hb
 ·exact h.elim
theorem pcs_rp {x:LV}{v:Value}(hx:LRp g x v){cs:List LV}(h:pcs x=some cs):LRps g cs v.cells.toList:=by
 unfold pcs at h;split at h
 ·rename_i es he;simp only[Option.some.injEq]at h;subst h;obtain⟨vs,rfl,hvs⟩:=zzx hx he;simpa[Value.cells]using hvs
 · split at h
   ·rename_i hone;simp only[Option.some.injEq]at h;subst h;rw[qkz (zxz hx hone)];exact .cons hx .nil
   ·cases h
theorem zwr {cs:List LV}{vs:List Value}(hc:LRps g cs vs)(h:cs.all one=true):∀v∈vs,v.oneCell'=true:=by
 intro v hv;obtain⟨i,hi⟩:=List.getElem?_of_mem hv;obtain⟨x,hx,hr⟩:=hc.get' hi;exact zxz hr (List.all_eq_true.1 h x (List.mem_of_getElem? hx))
theorem zwb {Φ:Nat->Nat->Option Value}{x:D}{v:Value}(h:Rp Φ x v){sz:Nat}(he:x.el sz=true):v.cells.size=sz/\∀u∈v.cells,u.oneCell'=true:=by
 simp only[D.el,Bool.and_eq_true,beq_iff_eq]at he;obtain⟨⟨h1,h2⟩,h3⟩:=he
 have key:x.lcs=x.cs.map .d:=by cases x<;>rfl
 have:=D.lcs_rp (g:=⟨fun _=>0,Φ,fun _=>(0,0),fun _=>none⟩) h h1;rw[key]at this;have hl:=this.length
 refine⟨by simp at hl;omega,fun u hu=>?_⟩
 have hu':u∈v.cells.toList:=by simpa using hu
 refine zwr this ?_ u hu';rw[List.all_map];exact h3
end
end Lx
