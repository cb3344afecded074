import Derived.Test.YtkknljojdgpdaaaGreatDoorA17
import Derived.Test.YtkknljojdgpdaaaGreatDoorA16
set_option maxHeartbeats 32000000
set_option linter.unusedSimpArgs false
set_option linter.unusedVariables false
set_option maxRecDepth 20000
namespace Lx
open Go
open Lg (Tok Tree Ty Sym Chk Hp)
open Go.Proofs (Tryz.prog)
open Go.Proofs.Tryz
def eblockS:Spec:=fun ys bx Kr Kp=>∃h vs bs cs F H p td,∃T:List Ty,ys=[.bp 1000 0,.d (parD p),.d td]/\tabD td T/\bx 1000=some (stB h vs bs cs)/\HpA bx h F H/\(∀t∈T,TyOk T t)/\0<=p.typ/\p.typ<T.length/\H.chunks.length<=100000/\
 match Lg.zkz p T H with
 |.error e=>Kp (zjz e) (put 1000 (stB h vs bs cs) nix)
 |.ok r=>∀bx' F',HpA bx' h F' r.2->Frm bx bx' h F F'->Kr (.tup [.d (symD r.1.1),.d (symD r.1.2)]) (put 1000 (stB h vs bs cs) bx') none
theorem cv52:cvD T51.zero=symD Lg.zSym:=rfl
theorem zk6 {t:Ty}(h:(t.fields.length:Int)=0):List.replicate t.fields.length (symD Lg.zSym)=[]:=by rw[show t.fields.length=0 by omega];rfl
theorem qka {t:Ty}(h:¬(t.fields.length:Int)=0):owAr 54 4 52 (List.replicate t.fields.length (symD Lg.zSym)) nix=put 54 (4,52,List.replicate t.fields.length (symD Lg.zSym)) nix/\ceLV (List.replicate t.fields.length (symD Lg.zSym))=.os 54 4 t.fields.length:=by
 obtain⟨m,hm⟩:∃m,t.fields.length=m+1:=⟨t.fields.length-1,by omega⟩
 rw[hm,List.replicate_succ]
 exact⟨rfl,by rw[ceLV,List.length_replicate]⟩
theorem eblock_OK:OKS Tryz.prog 28 eblockS:=by
 refine qv8 qzu (E:=EH) (sp:=spL [(60,originS),(61,.c putS),(27,.c zwc),(63,overS),(62,.c zxj),(64,.c arraysS)]) qzt qzl (OKs.ok ⟨origin_OK,⟨put_OK,⟨efresh_OK,⟨over_OK,⟨zkq,⟨arrays_OK,trivial⟩⟩⟩⟩⟩⟩) func28 rfl ntmps28 results28 call28 [1000] ?_;rintro ys bx Kr Kp ⟨h,ws,bs,cs,F,H,p,td,T,rfl,htd,hb0,hH,hT,hp0,hp1,hcn,hK⟩ hN
 refine⟨by simp only[hb0,stB,go_sem],by simp,?_⟩
 obtain⟨ft,rfl⟩:∃f,td=.sl 5 (T.map qqk) f:=by
  rcases htd with h|⟨_,h⟩
  ·exact h
  ·subst h;simp at hp1;omega
 obtain⟨t,ht⟩:∃t,T[p.typ.toNat]?=some t:=⟨_,lD (by omega)⟩;have htT:=hT t (List.mem_of_getElem? ht)
 have htg:(T.map qqk)[p.typ.toNat]?=some (qqk t):=by rw[List.getElem?_map,ht];rfl
 have hz:∃z:Box,z=⟨[.d (.int .i64 0),.d (.int .i64 0),.d (.int .i64 0),.d (.int .i64 0)],52⟩:=⟨_,rfl⟩;simp only[hb0,stB,hN.fgt,parD,go_sem];refine qqo [4] [1000] [0,1,2,3,4,5,6] (wE 7 8 9 wZ) ⟨136,put 0 (.bp 1000 0) (put 2 (.d (.sl 5 (T.map qqk) ft)) (put 4 (.ep (parD p) 0) (put 6 (.bp 6 0) (put 7 (.bp 7 0) (put 8 (.bp 8 0) (put 9 (.d (.int .i64 p.typ)) nix)))))),put 6 ⟨[.d (.int .i64 0),.d (.int .i64 0),.d (.int .i64 0),.d (.int .i64 0)],52⟩ (put 7 ⟨[.d (.int .i64 0),.d (.int .i64 0),.d (.int .i64 0),.d (.int .i64 0)],52⟩ (put 8 ⟨[.d (.st t.name),.d (.int .i64 t.sort),.d (.int .i64 t.of),.d (.sl 2 (t.fields.map fldD) false),.d (.sl 3 (t.facts.map leqD) false)],69⟩ (put 1000 (stB h ws bs cs) (ovS bx nix)))),nix⟩ (by decide) ?_ ?_
 · simp only[hb0,stB,hN.fgt,hN.fz,hN.fzb,parD,htg,qqk,lE,go_sem]
   exact⟨by omega,by omega,rfl,sP6 (sP1 qza),sP3 (qzd hb0 (qqe fun k=>by simp only[hN.ov_eq,go_sem])),qza⟩
 · have hTB:NT (ovS bx nix):=.of bx;have hFB:Frm bx (ovS bx nix) h F F:=.ov0 hN nix;have hHB:=hH.ov nix;obtain⟨B,hB⟩:∃B,B=ovS bx nix:=⟨_,rfl⟩;rw[<-hB]at hTB hFB hHB⊢;have hNB:=hTB.ns;have hBo:=hTB.ov;unfold parD;simp only[go_sem];refine⟨_,_,rfl,?_⟩;obtain⟨o,ho⟩:∃o,o=Lg.qx9 p.mode t.sort:=⟨_,rfl⟩;rw[<-ho]
   have fin:∀r:Lg.HR ((Sym×Sym)×Hp),(match r with
     |.error e=>Kp (zjz e) (put 1000 (stB h ws bs cs) nix)
     |.ok r=>∀bx' F',HpA bx' h F' r.2->Frm bx bx' h F F'->Kr (.tup [.d (symD r.1.1),.d (symD r.1.2)]) (put 1000 (stB h ws bs cs) bx') none)->(match r with
     |.error e=>Kp (zjz e) (put 1000 (stB h ws bs cs) nix)
     |.ok r=>∀bx' F',HpA bx' h F' r.2->Frm B bx' h F F'->Kr (.tup [.d (symD r.1.1),.d (symD r.1.2)]) (put 1000 (stB h ws bs cs) bx') none):=fun r hr=>by
    cases r with
    |error e=>exact hr
    |ok r=>
     obtain⟨_,_,_,hx,_⟩:=hHB
     exact fun bx' F' q1 q2=>hr bx' F' q1 (hFB.trans q2 ⟨_,hx.box⟩)
   have hge:Lg.tyAt T p.typ=t:=by rw[Lg.tyAt,ht];rfl
   by_cases h4:t.sort=4
   · obtain⟨u,hu⟩:∃u,T[t.of.toNat]?=some u:=⟨_,lD (by have:=htT.of4 h4;omega)⟩;have huT:=hT u (List.mem_of_getElem? hu);have hus:=(htT.of4 h4).2.2 u hu
     have hug:(T.map qqk)[t.of.toNat]?=some (qqk u):=by rw[List.getElem?_map,hu];rfl
     simp only[hNB.fgt,h4,go_sem];refine qju (wT 0 (wT 2 (wT 3 (wB 1 (wT 7 (wF 4 5 6 8 wZ)) 4 (wB 1 (wT 7 (wE 5 6 8 wZ)) 5 (wB 1 (wT 7 (wD 6 8 wZ)) 6 (wA 1 (wT 7 (wA 8 wZ))))))))) ⟨136,put 0 (.bp 1000 0) (put 2 (.d (.sl 5 (T.map qqk) ft)) (put 6 (.bp 6 0) (put 7 (.bp 7 0) (put 8 (.bp 8 0) (put 9 (.d (.int .i64 t.of)) (put 10 (.bp 10 0) nix)))))),put 6 zB (put 7 zB (put 8 (tyB u) (put 10 (chB o 0 (-1) false (.d (.imm (.slice none 0 0)))) (put 1000 (stB h ws bs cs) B)))),nix⟩ ?_ ?_
     · simp only[hNB.fgt,hNB.fz,hug,qqk,lE,go_sem]
       repeat' first
        |exact(htT.of4 h4).1
        |exact(htT.of4 h4).2.1
        |exact⟨rfl,sP6 (sP1 qza),sP5 (hTB.sub fun k=>by simp only[hNB.fgt,go_sem]),qza⟩
        |apply And.intro
     · unfold zB tyB chB;simp only[hus,go_sem];refine qju (wT 0 (wT 1 (wT 5 (wB 2 (wB 3 (wB 4 (wA 6 (wT 7 (wA 8 wZ))) 6 (wA 4 (wT 7 (wA 8 wZ)))) 6 (wD 3 4 (wT 7 (wA 8 wZ)))) 6 (wE 2 3 4 (wT 7 (wA 8 wZ))))))) (stR o t.of u.of true u (stB h ws bs cs) B) ?_ ?_
       · simp only[hNB.fgt,hNB.fz,lE,go_sem]
         repeat' first
          |apply And.intro
          |omega
          |rfl
          |(have:=(huT).nf;omega)
          |(intro hz;unfold stR;rw[zk6 hz];exact⟨rfl,sP5 qza,sP2 (qzd (by simp only[tyB,hus];rfl) (sP2 (hTB.sub fun k=>by simp only[hNB.fgt,go_sem]))),qza⟩)
          |(intro hz;unfold stR;rw[(qka hz).1,(qka hz).2,List.length_replicate,lA,cv52];exact⟨rfl,sP5 qza,sP2 (qzd (by simp only[tyB,hus];rfl) (sP2 (hTB.sub fun k=>by simp only[hNB.fgt,go_sem]))),sP1 qza⟩)
       · refine qwv rfl hTB hHB hcn huT.nf huT.nl huT.fs huT.facts (fun h5=>?_) (fin _ ?_)
         ·rw[ho,h4]at h5;exact absurd h5 (show¬(6:Int)=5 by decide)
         ·rw[blockR_eq hge (u:=u) (by rw[if_pos h4,Lg.tyAt,hu];rfl),<-ho,if_pos h4,if_pos (.inr hus),h4]at hK;exact hK
   · have e4:(t.sort==4)=false:=by simpa using h4
     rw[blockR_eq hge (u:=t) (by rw[if_neg h4]),<-ho,if_neg h4,e4]at hK;by_cases h3:t.sort=3
     · rw[if_pos (.inr h3)]at hK;simp only[hNB.fgt,h3,go_sem];refine qju (wT 0 (wT 1 (wT 5 (wB 2 (wB 3 (wB 4 (wA 6 (wT 7 (wA 8 wZ))) 6 (wA 4 (wT 7 (wA 8 wZ)))) 6 (wD 3 4 (wT 7 (wA 8 wZ)))) 6 (wE 2 3 4 (wT 7 (wA 8 wZ))))))) (stR o p.typ t.of false t (stB h ws bs cs) B) ?_ ?_
       · simp only[hNB.fgt,hNB.fz,lE,go_sem]
         repeat' first
          |apply And.intro
          |omega
          |rfl
          |(have:=(htT).nf;omega)
          |(intro hz;unfold stR;rw[zk6 hz];exact⟨rfl,sP5 qza,sP2 (qzd (by simp only[tyB,h3];rfl) (sP2 (hTB.sub fun k=>by simp only[hNB.fgt,go_sem]))),qza⟩)
          |(intro hz;unfold stR;rw[(qka hz).1,(qka hz).2,List.length_replicate,lA,cv52];exact⟨rfl,sP5 qza,sP2 (qzd (by simp only[tyB,h3];rfl) (sP2 (hTB.sub fun k=>by simp only[hNB.fgt,go_sem]))),sP1 qza⟩)
       ·exact qwv rfl hTB hHB hcn htT.nf htT.nl htT.fs htT.facts (fun h5=>by rw[ho,h3]at h5;exact absurd h5 (show¬(6:Int)=5 by decide)) (fin _ hK)
     · by_cases h2:t.sort=2
       · rw[if_pos (.inl h2)]at hK;simp only[hNB.fgt,h2,go_sem];refine qju (wT 0 (wT 1 (wT 5 (wB 2 (wB 3 (wB 4 (wA 6 (wT 7 (wA 8 wZ))) 6 (wA 4 (wT 7 (wA 8 wZ)))) 6 (wD 3 4 (wT 7 (wA 8 wZ)))) 6 (wE 2 3 4 (wT 7 (wA 8 wZ))))))) (stR o p.typ t.of false t (stB h ws bs cs) B) ?_ ?_
         · simp only[hNB.fgt,hNB.fz,lE,go_sem]
           repeat' first
            |apply And.intro
            |omega
            |rfl
            |(have:=(htT).nf;omega)
            |(intro hz;unfold stR;rw[zk6 hz];exact⟨rfl,sP5 qza,sP2 (qzd (by simp only[tyB,h2];rfl) (sP2 (hTB.sub fun k=>by simp only[hNB.fgt,go_sem]))),qza⟩)
            |(intro hz;unfold stR;rw[(qka hz).1,(qka hz).2,List.length_replicate,lA,cv52];exact⟨rfl,sP5 qza,sP2 (qzd (by simp only[tyB,h2];rfl) (sP2 (hTB.sub fun k=>by simp only[hNB.fgt,go_sem]))),sP1 qza⟩)
         ·exact qwv rfl hTB hHB hcn htT.nf htT.nl htT.fs htT.facts (fun _=>htT.of23 (.inl h2)) (fin _ hK)
       · have e3:(t.sort==3)=false:=by simpa using h3
         have e2:(t.sort==2)=false:=by simpa using h2
         rw[if_neg (fun h=>h.elim h2 h3)]at hK;simp only[hNB.fgt,e2,e3,e4,go_sem];refine qju (wT 0 (wT 1 (wT 5 (wB 2 (wB 3 (wB 4 (wA 6 (wT 7 (wA 8 wZ))) 6 (wA 4 (wT 7 (wA 8 wZ)))) 6 (wD 3 4 (wT 7 (wA 8 wZ)))) 6 (wE 2 3 4 (wT 7 (wA 8 wZ))))))) (stR o p.typ (-1) false t (stB h ws bs cs) B) ?_ ?_
         · simp only[hNB.fgt,hNB.fz,lE,go_sem]
           repeat' first
            |apply And.intro
            |omega
            |rfl
            |(have:=(htT).nf;omega)
            |(intro hz;unfold stR;rw[zk6 hz];exact⟨rfl,sP5 qza,sP5 (hTB.sub fun k=>by simp only[hNB.fgt,go_sem]),qza⟩)
            |(intro hz;unfold stR;rw[(qka hz).1,(qka hz).2,List.length_replicate,lA,cv52];exact⟨rfl,sP5 qza,sP5 (hTB.sub fun k=>by simp only[hNB.fgt,go_sem]),sP1 qza⟩)
         · refine qwv rfl hTB hHB hcn htT.nf htT.nl htT.fs htT.facts (fun h5=>?_) (fin _ hK);rw[ho]at h5;unfold Lg.qx9 at h5;rw[if_neg h2]at h5;split at h5
           · split at h5
             ·exact absurd h5 (by decide)
             · split at h5
               ·exact absurd h5 (by decide)
               ·split at h5<;>exact absurd h5 (by decide)
           · split at h5
             ·split at h5<;>exact absurd h5 (by decide)
             ·exact absurd h5 (by decide)
end Lx
namespace Lg
theorem qqa {α β:Type}{x:HR α}{f:α->HR β}{r:β}(h:hbnd x f=.ok r):∃a,x=.ok a/\f a=.ok r:=by
 cases x with
 |error e=>cases h
 |ok a=>exact⟨a,rfl,h⟩
theorem qq6 {h h':Hp}{fs:List (Int×Int×Int)}(e:h.assume fs=.ok h'):h'=⟨h.chunks,h.vars,h.facts++fs⟩:=by
 unfold Hp.assume at e;split at e
 ·cases e
 ·cases e;rfl
theorem qjb {h:Hp}{p:Sym×Hp}(e:h.fresh=.ok p):p=(nSym h.vars,⟨h.chunks,h.vars+1,h.facts++[(h.vars,0,1099511627776),(0,h.vars,1099511627776)]⟩):=by
 unfold Hp.fresh at e;split at e
 ·cases e
 ·obtain⟨a,h1,h2⟩:=qqa e;rw[qq6 h1]at h2;cases h2;rfl
theorem qx6 {out:Int}:∀{fs:List (Bs×Int)} {i:Nat} {h:Hp} {q:List Sym×Hp},qk0 out i fs h=.ok q->q.2.chunks=h.chunks
 |[],i,h,q,e=>by cases e;rfl
 |f::fs,i,h,q,e=>by
  unfold qk0 at e;split at e
  · obtain⟨p,h1,h2⟩:=qqa e;obtain⟨r,h3,h4⟩:=qqa h2;cases h4
    rw[show(p.1::r.1,r.2).2=r.2 from rfl,qx6 h3,qjb h1]
  ·obtain⟨r,h3,h4⟩:=qqa e;cases h4;exact qx6 (q:=r) h3
theorem setCell_len (h:Hp)(b i:Nat)(s:Sym):(setCell h b i s).chunks.length=h.chunks.length:=by
 unfold setCell;split
 ·simp
 ·rfl
theorem zzh {b:Nat}{kind:Int}:∀{fs:List (Bs×Int)} {i:Nat} {h h':Hp},qje b kind i fs h=.ok h'->h'.chunks.length<=h.chunks.length+fs.length
 |[],i,h,h',e=>by cases e;simp
 |f::fs,i,h,h',e=>by
  unfold qje at e;split at e
  ·have:=zzh e;simp only[lB];omega
  ·obtain⟨a,h1,h2⟩:=qqa e;have:=zzh h2;rw[qq6 h1,setCell_len]at this;simp only[Hp.put,lC,lB,lH]at this⊢;omega
theorem restR_len {o num at_:Int}{held:Bool}{ty:Ty}{h:Hp}{r:(Sym×Sym)×Hp}(e:restR o num at_ held ty h=.ok r):r.2.chunks.length<=h.chunks.length+1+ty.fields.length:=by
 unfold restR at e;split at e
 ·cases e;simp[Hp.put]
 · obtain⟨c,h1,e⟩:=qqa e;obtain⟨h2,h3,e⟩:=qqa e;obtain⟨h4,h5,e⟩:=qqa e;obtain⟨h6,h7,e⟩:=qqa e;cases e
   have hc:h4.chunks=h.chunks:=by
    have h8:h2.chunks=h.chunks:=by rw[qq6 h3];exact qx6 h1
    split at h5
    ·rw[qq6 h5];exact h8
    ·cases h5;exact h8
   have:=zzh h7;simp only[Hp.put,lC,lB,lH,hc]at this⊢;exact this
theorem blockR_len {p:Par}{T:List Ty}{h:Hp}{r:(Sym×Sym)×Hp}(hT:∀t∈T,t.fields.length<=8)(e:zkz p T h=.ok r):r.2.chunks.length<=h.chunks.length+9:=by
 rw[Lx.blockR_eq rfl rfl]at e;have:=restR_len e
 have h8:∀i,(tyAt T i).fields.length<=8:=fun i=>by
  unfold tyAt
  cases h:T[i.toNat]? with
  |none=>exact Nat.zero_le _
  |some t=>exact hT t (List.mem_of_getElem? h)
 split at this
 ·have:=h8 (tyAt T p.typ).of;omega
 ·have:=h8 p.typ;omega
end Lg
namespace Lx
open Go
open Lg (Tok Tree Ty Sym Chk Hp)
open Go.Proofs (Tryz.prog)
open Go.Proofs.Tryz
def sigD (g:Lg.Sg):D:=.ag [.st g.name,.sl 3 (g.params.map parD) false,.st g.ret.name,.int .i64 g.ret.mode,.int .i64 g.ret.typ]
def varD (x:Lg.Bs×Sym):D:=.ag [.st x.1,.int .i64 x.2.kind,.int .i64 x.2.var,.int .i64 x.2.k,.int .i64 x.2.block]
def intD (n:Int):D:=.int .i64 n
def startD (h:Nat)(vs bs cs:D):D:=.ag [ptD h,vs,bs,cs]
def arrB (ds:List D)(sz ty c:Nat):Box:=⟨ds.flatMap D.lcs++List.replicate ((c-ds.length)*sz) .un,ty⟩
def qvn (bx:Bx)(v:D)(ds:List D)(sz ty:Nat):Prop:=ds=[]/\v=nilS\/ds≠[]/\∃b c,v=slD b ds.length c/\ds.length<=c/\bx (b+1000000)=some (arrB ds sz ty c)
theorem zqd {sz:Nat}:∀{ds:List D},(∀d∈ds,d.lcs.length=sz)->(ds.flatMap D.lcs).length=ds.length*sz
 |[],_=>by simp
 |d::ds,h=>by
  rw[List.flatMap_cons,lC,zqd fun x hx=>h x (List.mem_cons_of_mem _ hx),h d (List.mem_cons_self ..),lB,Nat.add_mul,Nat.one_mul,Nat.add_comm]
theorem arrB_more {ds:List D}{sz ty k k':Nat}{x:D}(h:∀d∈ds,d.lcs.length=sz):(⟨(arrB ds sz ty k).cells.take (ds.length*sz)++x.lcs++List.replicate ((k'-(ds.length+1))*sz) .un,ty⟩:Box)=arrB (ds++[x]) sz ty k':=by
 unfold arrB;rw[List.take_append_of_le_length (by rw[zqd h];exact Nat.le_refl _),List.take_of_length_le (by rw[zqd h];exact Nat.le_refl _),List.flatMap_append,lC];simp only[List.flatMap_cons,List.flatMap_nil,List.append_nil,lB,lH,Nat.zero_add]
theorem arrB_cl {α:Type}{f:α->D}{l:List α}{n sz ty k:Nat}(hn:l.length=n)(h:∀x,(f x).lcs.length=sz)(hk:n<=k):(arrB (l.map f) sz ty k).cells.length=k*sz:=by
 subst hn;unfold arrB;rw[lC,zqd (fun d hd=>by obtain⟨x,_,rfl⟩:=List.mem_map.1 hd;exact h x),List.length_replicate,lE,<-Nat.add_mul,Nat.add_sub_cancel' hk]
theorem zjr {α:Type}{f:α->D}{l:List α}{a:α}{n sz ty k k':Nat}(hn:l.length=n)(h:∀x,(f x).lcs.length=sz):elC sz (n+1) k' (List.take (n*sz) (arrB (l.map f) sz ty k).cells) [f a]=(arrB ((l++[a]).map f) sz ty k').cells:=by
 subst hn
 have h':∀d∈l.map f,d.lcs.length=sz:=fun d hd=>by obtain⟨x,_,rfl⟩:=List.mem_map.1 hd;exact h x
 rw[List.map_append,List.map_cons,List.map_nil,<-arrB_more (k:=k) (k':=k') h',lE,elC,List.flatMap_cons,List.flatMap_nil,List.append_nil]
theorem del_same {α:Type}(k:Nat)(f:Nat->Option α):del k f k=none:=if_pos rfl
theorem del_ne {α:Type}{k j:Nat}(f:Nat->Option α)(h:j≠k):del k f j=f j:=if_neg h
theorem NT.del {B:Bx}(hB:NT B)(k:Nat):NT (Lx.del k B):=by
 have e:∀j x,Lx.del k B j=some x->1000000<=j/\dC x.cells=x.cells:=by
  intro j x hj;by_cases h:j=k
  ·subst h;rw[del_same]at hj;cases hj
  · rw[del_ne _ h]at hj;refine⟨?_,hB.ns.dc _ _ hj⟩;rw[<-hB.ov]at hj;unfold ovS at hj;split at hj
    ·assumption
    ·cases hj
 refine⟨.mk' fun j x hj=>⟨by have:=(e j x hj).1;omega,(e j x hj).2⟩,?_⟩
 funext j
 unfold ovS
 cases hj:Lx.del k B j with
 |none=>split<;>rfl
 |some x=>
  obtain⟨h1,h2⟩:=e j x hj;rw[if_pos h1];obtain⟨cs,ty⟩:=x;exact congrArg (fun c=>some (Box.mk c ty)) h2
theorem zwo (ds:List D)(sz ty k:Nat):dC (arrB ds sz ty k).cells=(arrB ds sz ty k).cells:=by
 simp only[arrB,zqa,qj7,zq4]
theorem qvn.keep {B B':Bx}{v:D}{ds:List D}{sz ty:Nat}(h:qvn B v ds sz ty)(hk:∀b x,blk v=some b->B (b+1000000)=some x->B' (b+1000000)=some x):qvn B' v ds sz ty:=by
 rcases h with h|⟨h1,b,c,rfl,h3,h4⟩
 ·exact .inl h
 ·exact .inr ⟨h1,b,c,rfl,h3,hk _ _ rfl h4⟩
theorem qvn.ty {B:Bx}{v:D}{ds:List D}{sz ty b:Nat}(h:qvn B v ds sz ty)(hb:blk v=some b):∃x,B (b+1000000)=some x/\x.ty=ty:=by
 rcases h with⟨_,rfl⟩|⟨h1,b',c,rfl,h3,h4⟩
 ·cases hb
 ·cases hb;exact⟨_,h4,rfl⟩
structure StA (bx B:Bx)(h:Nat)(F:List Nat)(vs bs cs:D)(s:Lg.Sta):Prop where
 heap:HpA B h F s.heap
 vars:qvn B vs (s.vars.map varD) 5 55
 blocks:qvn B bs (s.blocks.map intD) 1 3
 counts:qvn B cs (s.counts.map symD) 4 52
 apart:∀C,blk cs=some C->C∉F
 old:∀k b,bx (k+1000000)=some b->B (k+1000000)=some b
 hnew:bx (h+1000000)=none
 fnew:∀a∈F,bx (a+1000000)=none
 anew:∀v∈[vs,bs,cs],∀a,blk v=some a->bx (a+1000000)=none
theorem HpB.tyF {B:Bx}{h:Nat}{va fv:D}{vs:List D}{H:Hp}(hA:HpB B h va fv vs H){a:Nat}(ha:a∈(va::vs).filterMap blk):∃x,B (a+1000000)=some x/\(x.ty=62\/x.ty=52):=by
 obtain⟨w,hw,hb⟩:=List.mem_filterMap.mp ha
 rcases List.mem_cons.mp hw with rfl|hw
 · rcases hA.chunks with⟨_,rfl⟩|⟨_,A,c,rfl,_,hx⟩
   ·cases hb
   ·cases hb;exact⟨_,hx,.inl rfl⟩
 ·obtain⟨i,hi⟩:=List.getElem?_of_mem hw;obtain⟨k,cs,hx⟩:=hA.cellBox hi hb;exact⟨_,hx,.inr rfl⟩
theorem HpA.tyF {B:Bx}{h:Nat}{F:List Nat}{H:Hp}(hA:HpA B h F H){a:Nat}(ha:a∈F):∃x,B (a+1000000)=some x/\(x.ty=62\/x.ty=52):=by
 obtain⟨va,fv,vs,hA,rfl⟩:=hA;exact hA.tyF ha
theorem HpA.tyH {B:Bx}{h:Nat}{F:List Nat}{H:Hp}(hA:HpA B h F H):∃x,B (h+1000000)=some x/\x.ty=59:=by
 obtain⟨va,fv,vs,hA,rfl⟩:=hA;exact⟨_,hA.box,rfl⟩
theorem HpA.keep {B B':Bx}{h:Nat}{F:List Nat}{H:Hp}(hA:HpA B h F H)(hk:∀k x,k=h\/k∈F->B (k+1000000)=some x->B' (k+1000000)=some x):HpA B' h F H:=by
 obtain⟨va,fv,vs,hA,rfl⟩:=hA;refine⟨va,fv,vs,⟨hk _ _ (.inl rfl) hA.box,hA.facts,hA.nf,hA.nv,hA.len,?_,?_,hA.inj⟩,rfl⟩
 · rcases hA.chunks with h|⟨hn,A,c,h1,h2,h3⟩
   ·exact .inl h
   ·exact .inr ⟨hn,A,c,h1,h2,hk _ _ (.inr (List.mem_filterMap.mpr ⟨_,List.mem_cons_self ..,by rw[h1];rfl⟩)) h3⟩
 · intro i c v hc hv
   rcases hA.cells i c v hc hv with h|⟨hn,R,k,h1,h2,h3⟩
   ·exact .inl h
   ·exact .inr ⟨hn,R,k,h1,h2,hk _ _ (.inr (List.mem_filterMap.mpr ⟨_,List.mem_cons_of_mem _ (List.mem_of_getElem? hv),by rw[h1];rfl⟩)) h3⟩
section
variable {bx B B':Bx}{h:Nat}{F F':List Nat}{vs bs cs:D}{s:Lg.Sta}
theorem StA.call (hS:StA bx B h F vs bs cs s){H:Hp}(hH:HpA B' h F' H)(hf:Frm B B' h F F'):StA bx B' h F' vs bs cs ⟨H,s.vars,s.blocks,s.counts⟩:=by
 obtain⟨x0,hx0,ht0⟩:=hS.heap.tyH
 have key:∀{v:D} {ds:List D} {sz ty:Nat},qvn B v ds sz ty->(∀b,blk v=some b->b≠h/\b∉F)->qvn B' v ds sz ty:=fun ha hb=>ha.keep fun b x h1 h2=>hf.keep b x h2 (hb b h1).1 (hb b h1).2
 have ne:∀{v:D} {ds:List D} {sz ty:Nat},qvn B v ds sz ty->ty≠59->∀b,blk v=some b->b≠h:=fun ha hty b hb e=>by
  obtain⟨x,hx,ht⟩:=ha.ty hb;rw[e,hx0]at hx;cases hx;exact hty (ht.symm.trans ht0)
 have nf:∀{v:D} {ds:List D} {sz ty:Nat},qvn B v ds sz ty->ty≠62->ty≠52->∀b,blk v=some b->b∉F:=fun ha h1 h2 b hb hF=>by
  obtain⟨x,hx,ht⟩:=ha.ty hb;obtain⟨y,hy,hty⟩:=hS.heap.tyF hF
  rw[hx]at hy;cases hy;rcases hty with e|e
  ·exact h1 (ht.symm.trans e)
  ·exact h2 (ht.symm.trans e)
 refine⟨hH,key hS.vars fun b hb=>⟨ne hS.vars (by decide) b hb,nf hS.vars (by decide) (by decide) b hb⟩,key hS.blocks fun b hb=>⟨ne hS.blocks (by decide) b hb,nf hS.blocks (by decide) (by decide) b hb⟩,key hS.counts fun b hb=>⟨ne hS.counts (by decide) b hb,hS.apart b hb⟩,fun C hC hF=>?_,fun k b hb=>?_,hS.hnew,fun a ha=>?_,hS.anew⟩
 · rcases hf.new C hF with e|e
   ·exact hS.apart C hC e
   ·obtain⟨x,hx,_⟩:=hS.counts.ty hC;rw[hx]at e;cases e
 · refine hf.keep k b (hS.old k b hb) (fun e=>?_) fun e=>?_
   ·rw[e,hS.hnew]at hb;cases hb
   ·rw[hS.fnew k e]at hb;cases hb
 · rcases hf.new a ha with e|e
   ·exact hS.fnew a e
   · cases hb:bx (a+1000000)with
     |none=>rfl
     |some b=>rw[hS.old a b hb]at e;cases e
structure Ap (B B':Bx)(v:D)(n b2 c:Nat):Prop where
 keep:∀k x,k≠b2->blk v≠some k->B (k+1000000)=some x->B' (k+1000000)=some x
 new:B (b2+1000000)=none\/blk v=some b2
 le:n<=c
theorem Ap.stay {v:D}{n b2 c k:Nat}{x:Box}(h:Ap B B' v n b2 c)(hb:B (k+1000000)=some x)(hv:blk v≠some k):B' (k+1000000)=some x:=by
 refine h.keep k x (fun e=>?_) hv hb;subst e
 rcases h.new with e|e
 ·rw[e]at hb;cases hb
 ·exact hv e
theorem Ap.arr {v:D}{n b2 c sz ty sz' ty':Nat}{ds es:List D}{w:D}(h:Ap B B' v n b2 c)(h1:qvn B v ds sz ty)(h2:qvn B w es sz' ty')(hne:ty≠ty'):qvn B' w es sz' ty':=
 h2.keep fun b x hb hx=>h.stay hx fun e=>by
  obtain⟨y,hy,e1⟩:=h1.ty e;obtain⟨z,hz,e2⟩:=h2.ty hb;rw[hy]at hz;cases hz;exact hne (e1.symm.trans e2)
theorem Ap.old {v:D}{n b2 c:Nat}(h:Ap B B' v n b2 c)(ho:∀k b,bx (k+1000000)=some b->B (k+1000000)=some b)(hv:∀a,blk v=some a->bx (a+1000000)=none):(∀k b,bx (k+1000000)=some b->B' (k+1000000)=some b)/\bx (b2+1000000)=none:=by
 refine⟨fun k b hb=>h.stay (ho k b hb) fun e=>?_,?_⟩
 ·rw[hv k e]at hb;cases hb
 · rcases h.new with e|e
   · cases hb:bx (b2+1000000)with
     |none=>rfl
     |some b=>rw[ho _ b hb]at e;cases e
   ·exact hv _ e
theorem StA.heapAp (hS:StA bx B h F vs bs cs s){v:D}{n b2 c sz ty:Nat}{ds:List D}(ha:Ap B B' v n b2 c)(h1:qvn B v ds sz ty)(hty:ty≠59)(hF:∀k,blk v=some k->k∉F):HpA B' h F s.heap:=
 hS.heap.keep fun k x hk hx=>ha.stay hx fun e=>by
  rcases hk with rfl|hk
  ·obtain⟨x0,hx0,ht0⟩:=hS.heap.tyH;obtain⟨y,hy,e1⟩:=h1.ty e;rw[hx0]at hy;cases hy;exact hty (e1.symm.trans ht0)
  ·exact hF k e hk
theorem StA.nF (hS:StA bx B h F vs bs cs s){v:D}{sz ty:Nat}{ds:List D}(h1:qvn B v ds sz ty)(h2:ty≠62)(h3:ty≠52)(k:Nat)(e:blk v=some k):k∉F:=fun hk=>by
 obtain⟨y,hy,e1⟩:=h1.ty e;obtain⟨z,hz,e2⟩:=hS.heap.tyF hk;rw[hy]at hz;cases hz
 rcases e2 with e2|e2
 ·exact h2 (e1.symm.trans e2)
 ·exact h3 (e1.symm.trans e2)
theorem StA.addV (hS:StA bx B h F vs bs cs s){x:Lg.Bs×Sym}{n b2 c:Nat}(hn:s.vars.length=n)(ha:Ap B B' vs (n+1) b2 c)(hb:B' (b2+1000000)=some (arrB ((s.vars++[x]).map varD) 5 55 c)):StA bx B' h F (slD b2 (n+1) c) bs cs ⟨s.heap,s.vars++[x],s.blocks,s.counts⟩:=by
 subst hn;obtain⟨ho,hn⟩:=ha.old hS.old (hS.anew vs (by simp))
 refine⟨hS.heapAp ha hS.vars (by decide) (hS.nF hS.vars (by decide) (by decide)),.inr ⟨by simp,b2,c,by simp,by simpa using ha.le,hb⟩,ha.arr hS.vars hS.blocks (by decide),ha.arr hS.vars hS.counts (by decide),hS.apart,ho,hS.hnew,hS.fnew,fun v hv a e=>?_⟩
 simp only[List.mem_cons,List.not_mem_nil,or_false]at hv
 rcases hv with rfl|rfl|rfl
 ·cases e;exact hn
 ·exact hS.anew _ (by simp) a e
 ·exact hS.anew _ (by simp) a e
theorem StA.addB (hS:StA bx B h F vs bs cs s){x:Int}{n b2 c:Nat}(hn:s.blocks.length=n)(ha:Ap B B' bs (n+1) b2 c)(hb:B' (b2+1000000)=some (arrB ((s.blocks++[x]).map intD) 1 3 c)):StA bx B' h F vs (slD b2 (n+1) c) cs ⟨s.heap,s.vars,s.blocks++[x],s.counts⟩:=by
 subst hn;obtain⟨ho,hn⟩:=ha.old hS.old (hS.anew bs (by simp))
 refine⟨hS.heapAp ha hS.blocks (by decide) (hS.nF hS.blocks (by decide) (by decide)),ha.arr hS.blocks hS.vars (by decide),.inr ⟨by simp,b2,c,by simp,by simpa using ha.le,hb⟩,ha.arr hS.blocks hS.counts (by decide),hS.apart,ho,hS.hnew,hS.fnew,fun v hv a e=>?_⟩
 simp only[List.mem_cons,List.not_mem_nil,or_false]at hv
 rcases hv with rfl|rfl|rfl
 ·exact hS.anew _ (by simp) a e
 ·cases e;exact hn
 ·exact hS.anew _ (by simp) a e
theorem StA.addC (hS:StA bx B h F vs bs cs s){x:Sym}{n b2 c:Nat}(hn:s.counts.length=n)(ha:Ap B B' cs (n+1) b2 c)(hb:B' (b2+1000000)=some (arrB ((s.counts++[x]).map symD) 4 52 c)):StA bx B' h F vs bs (slD b2 (n+1) c) ⟨s.heap,s.vars,s.blocks,s.counts++[x]⟩:=by
 subst hn;obtain⟨ho,hn⟩:=ha.old hS.old (hS.anew cs (by simp))
 refine⟨hS.heapAp ha hS.counts (by decide) fun k e=>hS.apart k e,ha.arr hS.counts hS.vars (by decide),ha.arr hS.counts hS.blocks (by decide),.inr ⟨by simp,b2,c,by simp,by simpa using ha.le,hb⟩,fun C hC hF=>?_,ho,hS.hnew,hS.fnew,fun v hv a e=>?_⟩
 · cases hC
   rcases ha.new with e|e
   ·obtain⟨y,hy,_⟩:=hS.heap.tyF hF;rw[hy]at e;cases e
   ·exact hS.apart _ e hF
 simp only[List.mem_cons,List.not_mem_nil,or_false]at hv
 rcases hv with rfl|rfl|rfl
 ·exact hS.anew _ (by simp) a e
 ·exact hS.anew _ (by simp) a e
 ·cases e;exact hn
end
theorem qvn.box {B:Bx}{b n c:Nat}{ds:List D}{sz ty:Nat}(h:qvn B (slD b n c) ds sz ty):B (b+1000000)=some (arrB ds sz ty c):=by
 rcases h with⟨_,h⟩|⟨_,b',c',h,_,h4⟩
 ·cases h
 ·cases h;exact h4
theorem qvn.one {B:Bx}{v:D}{ds:List D}{sz ty:Nat}(h:qvn B v ds sz ty):one (.d v)=true:=by
 rcases h with⟨_,rfl⟩|⟨_,b,c,rfl,_⟩<;>rfl
theorem StA.cases {bx B:Bx}{h:Nat}{F:List Nat}{vs bs cs:D}{s:Lg.Sta}(hS:StA bx B h F vs bs cs s){i:Nat}(h1:s.vars.length=i)(h2:s.blocks.length=i)(h3:s.counts.length=i):
  (i=0/\vs=nilS/\bs=nilS/\cs=nilS/\s.vars=[]/\s.blocks=[]/\s.counts=[])\/i≠0/\(∃b c,vs=slD b i c/\i<=c/\B (b+1000000)=some (arrB (s.vars.map varD) 5 55 c))/\(∃b c,bs=slD b i c/\i<=c/\B (b+1000000)=some (arrB (s.blocks.map intD) 1 3 c))/\∃b c,cs=slD b i c/\i<=c/\B (b+1000000)=some (arrB (s.counts.map symD) 4 52 c):=by
 have key:∀{α:Type} {f:α->D} {l:List α} {v:D} {sz ty:Nat},qvn B v (l.map f) sz ty->l.length=i->i=0/\v=nilS/\l=[]\/i≠0/\∃b c,v=slD b i c/\i<=c/\B (b+1000000)=some (arrB (l.map f) sz ty c):=fun ha hl=>by
  rcases ha with⟨hn,rfl⟩|⟨hn,b,c,rfl,hle,hb⟩
  ·have:=List.map_eq_nil_iff.1 hn;subst this;exact .inl ⟨hl.symm,rfl,rfl⟩
  · rw[lE,hl]at hle⊢
    refine .inr ⟨fun e=>hn ?_,b,c,rfl,hle,hb⟩
    rw[List.eq_nil_of_length_eq_zero (hl.trans e)];rfl
 rcases key hS.vars h1 with⟨e,h4,h5⟩|⟨e,h4⟩<;>rcases key hS.blocks h2 with⟨e2,h6,h7⟩|⟨e2,h6⟩<;>rcases key hS.counts h3 with⟨e3,h8,h9⟩|⟨e3,h8⟩<;>first|exact absurd e e2|exact absurd e2 e|exact absurd e e3|exact absurd e3 e|skip
 ·exact .inl ⟨e,h4,h6,h8,h5,h7,h9⟩
 ·exact .inr ⟨e,h4,h6,h8⟩
theorem Ap.put {B:Bx}{v:D}{n b c:Nat}{X:Box}(h:B (b+1000000)=none)(hc:n<=c):Ap B (put (b+1000000) X B) v n b c:=
 ⟨fun k x h1 _ h2=>by rw[qqr _ _ (by omega)];exact h2,.inl h,hc⟩
theorem Ap.putd {B:Bx}{b1 n0 c0 n b c:Nat}{X:Box}(h:del (b1+1000000) B (b+1000000)=none)(hc:n<=c):Ap B (Lx.put (b+1000000) X (del (b1+1000000) B)) (slD b1 n0 c0) n b c:=by
 refine⟨fun k x h1 h3 h2=>?_,?_,hc⟩
 ·rw[qqr _ _ (by omega),del_ne _ fun e=>h3 (by rw[show k=b1 by omega];rfl)];exact h2
 · by_cases e:b=b1
   ·subst e;exact .inr rfl
   ·rw[del_ne _ (by omega)]at h;exact .inl h
abbrev EB:Env:=mkH false (fun j=>j==4||j==5) (fun j=> !(j==4||j==5)) (fun j=>j==13||j==43||j==49||j==55)
def beginS:Spec:=fun ys bx Kr _=>∃g td T,ys=[.d (sigD g),.d td]/\tabD td T/\(∀t∈T,TyOk T t)/\g.params.length<=10000/\(∀p∈g.params,p.mode≠1->0<=p.typ/\p.typ<T.length)/\
 match Lg.beginR g T with
 |.error e=>Kr (.tup [.d (.ag [.imm (.pointer none),nilS,nilS,nilS]),.d (.int .i64 e)]) nix none
 |.ok s=>∀bx' h F vs bs cs,StA bx bx' h F vs bs cs s->Kr (.tup [.d (startD h vs bs cs),.d (.int .i64 0)]) bx' none
theorem zwm:OKS Tryz.prog 10 beginS:=by
 refine fn_OKDS qzu (E:=EB) (sp:=spL [(27,.c zwc),(28,.c eblockS)]) qzt qzl (OKs.ok ⟨efresh_OK,eblock_OK,trivial⟩)
  (cs:=[4,5]) (n:=2) (d:=11) recB_OK func10 rfl ntmps10 results10 call10 (.one _ _) rfl rfl rfl rfl rfl rfl rfl rfl ?_
 rintro ys bx Kr Kp ⟨g,td,T,rfl,htd,hT,hpl,hpt,hK⟩ hN
 refine⟨by simp,?_⟩
 unfold sigD;simp only[hN.fgt,go_sem];refine zk2 [4,5,2] [(4,.bp 4 0),(5,.bp 5 0),(2,.bp 2 0),(1,.d td)] ?_ ?_ rfl ?_ ?_ ?_ ?_ ?_ ?_
 ·show 11<59;decide
 · intro p hp;simp only[List.mem_cons,List.not_mem_nil,or_false]at hp
   rcases hp with rfl|rfl|rfl|rfl<;>simp
 ·exact⟨⟨_,rfl,rfl⟩,⟨_,rfl,rfl⟩,⟨_,rfl,rfl⟩,trivial⟩
 ·decide
 ·rfl
 · intro p hp;simp only[List.mem_cons,List.not_mem_nil,or_false]at hp
   rcases hp with rfl|rfl|rfl|rfl<;>rfl
 ·intro k hk;simpa[kyss,kys]using hk
 simp only[hN.fgt,hN.fz,qqc,hN.ov nix,go_sem];intro h hh;have hh:bx (h+1000000)=none:=Option.map_eq_none_iff.1 hh
 have hT8:∀t∈T,t.fields.length<=8:=fun t ht=>(hT t ht).nf
 have hB0:NT (put (h+1000000) (hbox nilS 1 nilS) (ovS bx nix)):=(NT.of bx).put rfl
 have hS0:StA bx (put (h+1000000) (hbox nilS 1 nilS) (ovS bx nix)) h [] nilS nilS nilS ⟨⟨[],1,[]⟩,[],[],[]⟩:=
  ⟨⟨nilS,nilS,[],⟨qz7 ..,.inr ⟨rfl,rfl⟩,by decide,by decide,rfl,.inl ⟨rfl,rfl⟩,fun i c v hc=>by simp at hc,fun i j v w R hv=>by simp at hv⟩,rfl⟩,(.inl ⟨rfl,rfl⟩),(.inl ⟨rfl,rfl⟩),(.inl ⟨rfl,rfl⟩),(fun C hC=>by cases hC),(fun k b hb=>by
    rw[qqr _ _ (fun e=>by rw[show k=h by omega,hh]at hb;cases hb)]
    exact hN.ovs hb),hh,(by simp),(fun v hv a e=>by simp at hv;subst hv;cases e)⟩
 refine qzj (T:={q:Nat×Lg.Sta×List Nat×D×D×D×Bx //NT q.2.2.2.2.2.2/\StA bx q.2.2.2.2.2.2 h q.2.2.1 q.2.2.2.1 q.2.2.2.2.1 q.2.2.2.2.2.1 q.2.1/\q.1<=g.params.length/\(q.2.1.vars.length=q.1/\q.2.1.blocks.length=q.1/\q.2.1.counts.length=q.1)/\q.2.1.heap.chunks.length<=9*q.1/\Lg.beginR g T=Lg.qkk T (g.params.drop q.1) q.2.1})
  (fun q=>⟨59,put 4 (.bp 1000 0) (put 5 (.bp 1001 0) (put 1 (.d td) (put 16 (.d (.sl 3 (g.params.map parD) false)) (put 17 (.d (.int .i64 g.params.length)) (put 18 (.d (.int .i64 q.1.1)) nix))))),put 1000 (stB h q.1.2.2.2.1 q.1.2.2.2.2.1 q.1.2.2.2.2.2.1) (put 1001 ⟨[.d (.int .i64 0)],40⟩ q.1.2.2.2.2.2.2),nix⟩) (fun q=>g.params.length-q.1.1)
  ⟨(0,⟨⟨[],1,[]⟩,[],[],[]⟩,[],nilS,nilS,nilS,put (h+1000000) (hbox nilS 1 nilS) (ovS bx nix)),hB0,hS0,Nat.zero_le _,⟨rfl,rfl,rfl⟩,Nat.zero_le _,rfl⟩
  ⟨rfl,sP4 (qzd (by simp[put]) (sP1 qza)),qzd (by simp only[stB,go_sem]) (qzd (by simp only[go_sem]) (hB0.sub fun k=>by simp only[hN.ov nix,hbox,go_sem])),fun _ _ h=>h⟩ ?_
 rintro⟨⟨i,s,F,vs,bs,cs,B⟩,g1,g2,g3,g4,g5,g6⟩;have hTB:NT B:=g1;have hS:StA bx B h F vs bs cs s:=g2;have hi:i<=g.params.length:=g3;obtain⟨hl1,hl2,hl3⟩:s.vars.length=i/\s.blocks.length=i/\s.counts.length=i:=g4;have hcl:s.heap.chunks.length<=9*i:=g5;have hrel:Lg.beginR g T=Lg.qkk T (g.params.drop i) s:=g6;dsimp only;clear g1 g2 g3 g5 g6;have hNB:=hTB.ns;have hBo:=hTB.ov;simp only[stB,lE,go_sem]
 refine⟨fun hlt=>?_,fun hge=>?_⟩
 · have hlt:i<g.params.length:=by have:=lF hlt;omega
   have hpg:(g.params.map parD)[i]?=some (parD g.params[i]):=by rw[List.getElem?_map,lD hlt];rfl
   rw[List.drop_eq_getElem_cons hlt,Lg.qkk]at hrel;have hpi:=hpt g.params[i] (List.getElem_mem hlt)
   generalize g.params[i]=p at hrel hpg hpi
   refine⟨by omega,by omega,?_⟩
   rw[lA,hpg];simp only[parD,hNB.fgt,hBo,go_sem]
   refine⟨fun hm=>?_,fun hm=>?_⟩
   refine⟨rfl,h,vs,bs,cs,F,s.heap,rfl,rfl,hS.heap.ov _,?_⟩
   have hm:p.mode=1:=by simpa using hm
   rw[Lg.paramR,if_pos hm]at hrel
   cases hf:s.heap.fresh with
   |error e=>
    rw[hf]at hrel;rw[hrel]at hK;dsimp only;simp only[hNB.fgt,hBo,go_sem];refine qqw [] [] ?_;simp only[hNB.fgt,hBo,go_sem];refine⟨rfl,ptD h,vs,bs,cs,0,rfl,rfl,e,rfl,?_⟩;simp only[recBx,go_sem];exact⟨_,nix,.cons (.rfl _) (.cons (.rfl _) .nil),qza,hK⟩
   |ok r=>?_
   obtain⟨v,H'⟩:=r;obtain⟨cnt,at_,F',hcnt,hat,hF'⟩:∃cnt at_ F',cnt=Lg.zSym/\at_=(-1:Int)/\F'=F:=⟨_,_,_,rfl,rfl,rfl⟩
   have hcl':H'.chunks.length<=9*(i+1):=by have:=Lg.qjb hf;cases this;simp only;omega
   have hrel':Lg.beginR g T=Lg.qkk T (g.params.drop (i+1)) ⟨H',s.vars++[(p.name,v)],s.blocks++[at_],s.counts++[cnt]⟩:=by rw[hrel,hf,hcnt,hat];rfl
   intro B1 hH1 hF1
   have hS1:StA bx (ovS B1 nix) h F' vs bs cs ⟨H',s.vars,s.blocks,s.counts⟩:=by rw[hF'];exact hS.call (hH1.ov nix) ((hF1.src hNB).ov hNB nix)
   rotate_left
   have hm:¬p.mode=1:=by simpa using hm
   refine⟨rfl,h,vs,bs,cs,F,s.heap,p,td,T,rfl,htd,rfl,hS.heap.ov _,hT,(hpi hm).1,(hpi hm).2,by omega,?_⟩
   rw[Lg.paramR,if_neg hm]at hrel
   cases hf:Lg.zkz p T s.heap with
   |error e=>
    rw[hf]at hrel;rw[hrel]at hK;dsimp only;simp only[hNB.fgt,hBo,go_sem];refine qqw [] [] ?_;simp only[hNB.fgt,hBo,go_sem];refine⟨rfl,ptD h,vs,bs,cs,0,rfl,rfl,e,rfl,?_⟩;simp only[recBx,go_sem];exact⟨_,nix,.cons (.rfl _) (.cons (.rfl _) .nil),qza,hK⟩
   |ok r=>?_
   obtain⟨⟨v,cnt⟩,H'⟩:=r;obtain⟨at_,hat⟩:∃at_,at_=v.block:=⟨_,rfl⟩
   have hcl':H'.chunks.length<=9*(i+1):=by have:=Lg.blockR_len hT8 hf;simp only at this;omega
   have hrel':Lg.beginR g T=Lg.qkk T (g.params.drop (i+1)) ⟨H',s.vars++[(p.name,v)],s.blocks++[at_],s.counts++[cnt]⟩:=by rw[hrel,hf,hat];rfl
   intro B1 F' hH1 hF1;have hS1:StA bx (ovS B1 nix) h F' vs bs cs ⟨H',s.vars,s.blocks,s.counts⟩:=hS.call (hH1.ov nix) ((hF1.src hNB).ov hNB nix);have hcnt:=hat
   all_goals
    have hT1:=NT.of B1;clear hF1 hH1 hrel;simp only[hNB.fgt,hBo,hS.vars.one,hS.blocks.one,hS.counts.one,stB,symD,go_sem]
    rcases hS1.cases hl1 hl2 hl3 with⟨rfl,rfl,rfl,rfl,e1,e2,e3⟩|⟨hi0,⟨b1,c1,rfl,hc1,hb1⟩,⟨b2,c2,rfl,hc2,hb2⟩,⟨b3,c3,rfl,hc3,hb3⟩⟩
    · replace e1:s.vars=[]:=e1;replace e2:s.blocks=[]:=e2;replace e3:s.counts=[]:=e3
      refine⟨_,rfl,rfl,rfl,by decide,by decide,fun e=>(nomatch e),fun _ b1 c1 h1 hc1=>?_⟩
      generalize hE1:elC 5 _ _ _ _=E1
      simp only[go_sem]at h1;simp only[hNB.fgt,hBo,hS.vars.one,hS.blocks.one,hS.counts.one,stB,go_sem];have hS2:=hS1.addV (B':=put (b1+1000000) ⟨E1,55⟩ (ovS B1 nix)) (x:=(p.name,v)) hl1 (.put (by simp only[go_sem];exact h1) hc1) (by rw[qz7,<-hE1,e1];rfl)
      refine⟨_,rfl,rfl,rfl,by decide,by decide,fun e=>(nomatch e),fun _ b2 c2 h2 hc2=>?_⟩
      generalize hE2:elC 1 _ _ _ _=E2
      simp only[go_sem]at h2;simp only[hNB.fgt,hBo,hS.vars.one,hS.blocks.one,hS.counts.one,stB,go_sem];have hS3:=hS2.addB (B':=put (b2+1000000) ⟨E2,3⟩ (put (b1+1000000) ⟨E1,55⟩ (ovS B1 nix))) (x:=at_) hl2 (.put (by simp only[go_sem];exact h2) hc2) (by rw[qz7,<-hE2,e2,hat];rfl)
      refine⟨_,rfl,rfl,rfl,by decide,by decide,fun e=>(nomatch e),fun _ b3 c3 h3 hc3=>?_⟩
      generalize hE3:elC 4 _ _ _ _=E3
      simp only[go_sem]at h3;simp only[hNB.fgt,hBo,hS.vars.one,hS.blocks.one,hS.counts.one,stB,go_sem]
      have hS4:=hS3.addC (B':=put (b3+1000000) ⟨E3,52⟩ (put (b2+1000000) ⟨E2,3⟩ (put (b1+1000000) ⟨E1,55⟩ (ovS B1 nix)))) (x:=cnt) hl3 (.put (by simp only[go_sem];exact h3) hc3) (by rw[qz7,<-hE3,e3];first|rfl|(rw[hcnt];rfl))
      have hT4:NT (put (b3+1000000) ⟨E3,52⟩ (put (b2+1000000) ⟨E2,3⟩ (put (b1+1000000) ⟨E1,55⟩ (ovS B1 nix)))):=by
       refine((hT1.put ?_).put ?_).put ?_
       ·rw[<-hE1];simp only[elC,List.nil_append,zqa,qj7,zq4]
       ·rw[<-hE2];simp only[elC,List.nil_append,zqa,qj7,zq4]
       ·rw[<-hE3];simp only[elC,List.nil_append,zqa,qj7,zq4]
      refine⟨⟨(1,_,F',_,_,_,_),hT4,hS4,hlt,⟨by simp[hl1],by simp[hl2],by simp[hl3]⟩,hcl',hrel'⟩,⟨rfl,sP6 qza,qzd (by simp only[go_sem]) (qzd (by simp only[go_sem]) (hT4.sub fun k=>by simp only[go_sem])),fun _ _ h=>h⟩,by show g.params.length-1<g.params.length-0;omega⟩
    · have hb1':=hb1;simp only[go_sem]at hb1';have hlen1:=arrB_cl (ty:=55) hl1 (fun x:Lg.Bs×Sym=>show(varD x).lcs.length=5 from rfl) hc1
      refine⟨rfl,arrB (s.vars.map varD) 5 55 c1,by simp only[hNB.fgt,hBo,go_sem];exact hb1',rfl,Nat.le_of_eq hlen1.symm,fun _=>hlen1,hc1,by show i+1<=_;omega,by show(i+1)*48<=_;omega,fun e=>(nomatch e),fun _ b4 c4 h4 hc4=>?_⟩
      generalize hE1:elC 5 _ _ _ _=E1
      replace hE1:=(zjr (ty:=55) (k:=c1) (k':=c4) (a:=(p.name,v)) hl1 (fun x:Lg.Bs×Sym=>show(varD x).lcs.length=5 from rfl)).symm.trans hE1;simp only[go_sem]at h4;simp only[hNB.fgt,hBo,hS.vars.one,hS.blocks.one,hS.counts.one,stB,go_sem];have hS2:=hS1.addV (B':=put (b4+1000000) ⟨E1,55⟩ (del (b1+1000000) (ovS B1 nix))) (x:=(p.name,v)) hl1 (.putd (by simp only[go_sem];exact h4) hc4) (by rw[qz7,<-hE1];rfl);have hb2':=hS2.blocks.box;simp only[go_sem]at hb2';have hlen2:=arrB_cl (ty:=3) hl2 (fun x:Int=>show(intD x).lcs.length=1 from rfl) hc2
      refine⟨rfl,arrB (s.blocks.map intD) 1 3 c2,by simp only[hNB.fgt,hBo,go_sem];exact hb2',rfl,Nat.le_of_eq hlen2.symm,fun _=>hlen2,hc2,by show i+1<=_;omega,by show(i+1)*8<=_;omega,fun e=>(nomatch e),fun _ b5 c5 h5 hc5=>?_⟩
      generalize hE2:elC 1 _ _ _ _=E2
      replace hE2:=(zjr (ty:=3) (k:=c2) (k':=c5) (a:=at_) hl2 (fun x:Int=>show(intD x).lcs.length=1 from rfl)).symm.trans (hat▸hE2);simp only[go_sem]at h5;simp only[hNB.fgt,hBo,hS.vars.one,hS.blocks.one,hS.counts.one,stB,go_sem];have hS3:=hS2.addB (B':=put (b5+1000000) ⟨E2,3⟩ (del (b2+1000000) (put (b4+1000000) ⟨E1,55⟩ (del (b1+1000000) (ovS B1 nix))))) (x:=at_) hl2 (.putd (by simp only[go_sem];exact h5) hc5) (by rw[qz7,<-hE2];rfl);have hb3':=hS3.counts.box;simp only[go_sem]at hb3';have hlen3:=arrB_cl (ty:=52) hl3 (fun x:Sym=>show(symD x).lcs.length=4 from rfl) hc3
      refine⟨rfl,arrB (s.counts.map symD) 4 52 c3,by simp only[hNB.fgt,hBo,go_sem];exact hb3',rfl,Nat.le_of_eq hlen3.symm,fun _=>hlen3,hc3,by show i+1<=_;omega,by show(i+1)*32<=_;omega,fun e=>(nomatch e),fun _ b6 c6 h6 hc6=>?_⟩
      generalize hE3:elC 4 _ _ _ _=E3
      replace hE3:(arrB (List.map symD (s.counts++[cnt])) 4 52 c6).cells=E3:=(zjr hl3 (fun x:Sym=>show(symD x).lcs.length=4 from rfl)).symm.trans (.trans (by first|rfl|(rw[hcnt];rfl)) hE3)
      simp only[go_sem]at h6;simp only[hNB.fgt,hBo,hS.vars.one,hS.blocks.one,hS.counts.one,stB,go_sem];have hS4:=hS3.addC (B':=put (b6+1000000) ⟨E3,52⟩ (del (b3+1000000) (put (b5+1000000) ⟨E2,3⟩ (del (b2+1000000) (put (b4+1000000) ⟨E1,55⟩ (del (b1+1000000) (ovS B1 nix))))))) (x:=cnt) hl3 (.putd (by simp only[go_sem];exact h6) hc6) (by rw[qz7,<-hE3];rfl)
      have hT4:NT (put (b6+1000000) ⟨E3,52⟩ (del (b3+1000000) (put (b5+1000000) ⟨E2,3⟩ (del (b2+1000000) (put (b4+1000000) ⟨E1,55⟩ (del (b1+1000000) (ovS B1 nix))))))):=by
       refine(((((hT1.del _).put ?_).del _).put ?_).del _).put ?_
       ·rw[<-hE1];exact zwo ..
       ·rw[<-hE2];exact zwo ..
       ·rw[<-hE3];exact zwo ..
      refine⟨⟨by omega,by omega⟩,⟨(i+1,_,F',_,_,_,_),hT4,hS4,hlt,⟨by simp[hl1],by simp[hl2],by simp[hl3]⟩,hcl',hrel'⟩,⟨rfl,sP6 qza,qzd (by simp only[go_sem]) (qzd (by simp only[go_sem]) (hT4.sub fun k=>by simp only[go_sem])),fun _ _ h=>h⟩,by show g.params.length-(i+1)<g.params.length-i;omega⟩
 · have hie:i=g.params.length:=by have:=lG hge;omega
   rw[hie,List.drop_length,Lg.qkk]at hrel;rw[hrel]at hK;rw[hS.vars.one,hS.blocks.one,hS.counts.one];simp only[go_sem];refine qqw [] [] ?_;simp only[go_sem];refine⟨ptD h,vs,bs,cs,0,rfl,rfl,?_⟩;simp only[recBx,go_sem]
   exact⟨_,B,.cons (.rfl _) (.cons (.rfl _) .nil),by rw[hBo];exact qz6,hK B h F vs bs cs hS⟩
open Lg (Tok Tree Ty)
def Spec.up (Sp:Spec):Spec3:=fun ys _ _ Kr Kp=>Sp ys nix (fun x _ a1=>match a1 with
 |none=>Kr x nix nix
 |some _=>False) (fun d _=>Kp d nix)
theorem OK.up {P:Program}{f:FuncId}{Sp:Spec}(h:OK P f Sp):OK3 P f Sp.up where
 enters:=h.enters
 calls ys bx ar Kr Kp hS g vs w has hwd:=by
  have hl:Gh.le g {g with len:=fun _=>none}:=⟨rfl,Phi.le_refl _,fun r m hm=>by cases hm⟩
  have hwd':Wd {g with len:=fun _=>none} nix nix w:=⟨fun k b hk=>(by cases hk),fun r sz ty xs hr=>(by cases hr),fun r=>rfl,hwd.fx,fun k k' b b' hk=>(by cases hk),fun r r' a a' hr=>(by cases hr),fun k r b a hk=>(by cases hk),fun k b o hk=>(by cases hk),fun r a o hr=>(by cases hr)⟩
  have hno:∀b,¬qxh {g with len:=fun _=>none} nix b:=fun b ⟨k,x,hk,_⟩=>by cases hk
  have aft:∀{g' bx' a1 w'},Aft {g with len:=fun _=>none} nix w g' bx' a1 w'->Aft3 g bx ar w {g' with len:=fun _=>none} nix nix w':=by
   intro g' bx' a1 w' hA
   refine⟨hA.Φ,⟨hA.fr.os,hA.fr.tape,hA.fr.output,hA.fr.size,fun b hb hn=>hA.fr.block b hb (hno b)⟩,fun b o v hv=>?_,⟨fun k b hk=>(by cases hk),fun r sz ty xs hr=>(by cases hr),fun r=>rfl,hA.wd.fx,fun k k' b b' hk=>(by cases hk),fun r r' a a' hr=>(by cases hr),fun k r b a hk=>(by cases hk),fun k b o hk=>(by cases hk),fun r a o hr=>(by cases hr)⟩,fun k b hk=>(by cases hk),fun r a hr=>(by cases hr)⟩
   rcases hA.fix b o v hv with h'|h'|h'
   ·exact .inl h'
   ·exact absurd h' (hno b)
   ·exact .inr (.inr h')
  refine(h.calls ys nix _ _ hS _ vs w (has.mono hl) hwd').mono ?_
  rintro e w' ⟨g',⟨x,v,bx',a1,rfl,hK,hx,hA⟩|⟨d,v,bx',rfl,hK,hd,hA⟩⟩
  · cases a1 with
    |some a=>exact hK.elim
    |none=>exact⟨{g' with len:=fun _=>none},.inl ⟨x,v,nix,nix,rfl,hK,LRp.mono (g:=g') (g':={g' with len:=fun _=>none}) ⟨rfl,Phi.le_refl _,fun r m hm=>by cases hm⟩ hx,aft hA⟩⟩
  ·exact⟨{g' with len:=fun _=>none},.inr ⟨d,v,nix,rfl,hK,hd,aft hA⟩⟩
@[go_sem]theorem cnC_d (k c:Nat)(x:D)(l:List LV):cnC k c (.d x::l)=.d x::cnC k (c+1) l:=(rfl)
@[go_sem]theorem cnC_os (k c r sz n:Nat)(l:List LV):cnC k c (.os r sz n::l)=.os (cn k c) sz n::cnC k (c+1) l:=(rfl)
@[go_sem]theorem cnC_un (k c:Nat)(l:List LV):cnC k c (.un::l)=.un::cnC k (c+1) l:=(rfl)
@[go_sem]theorem cnC_nil (k c:Nat):cnC k c []=[]:=(rfl)
@[go_sem]theorem cnM_d (k c:Nat)(x:D)(l:List LV):cnM k c (.d x::l)=cnM k (c+1) l:=(rfl)
@[go_sem]theorem cnM_os (k c r sz n:Nat)(l:List LV):cnM k c (.os r sz n::l)=(cn k c,r)::cnM k (c+1) l:=(rfl)
@[go_sem]theorem cnM_un (k c:Nat)(l:List LV):cnM k c (.un::l)=cnM k (c+1) l:=(rfl)
@[go_sem]theorem cnM_nil (k c:Nat):cnM k c []=[]:=(rfl)
theorem cnM_unC (k:Nat):∀(l:List LV) (c:Nat),cnM k c (unC l)=[]
 |[],_=>rfl
 |x::l,c=>by
  unfold unC cnM;cases x<;>exact cnM_unC k l (c+1)
theorem qxt (pk:List Nat)(bx:Bx):∀(ks:List Nat) (i:Nat),N3 (outU pk bx) i ks=[]
 |[],_=>rfl
 |k::ks,i=>by
  unfold N3
  cases hb:outU pk bx (1000+i)with
  |none=>exact qxt pk bx ks (i+1)
  |some b=>
   obtain⟨_,b0,_,rfl⟩:=qjk hb;simp only[cnM_unC,List.nil_append];exact qxt pk bx ks (i+1)
def tyx (nm:List UInt8)(so of:Int)(fs:List D)(gs:List D):Box:=⟨[.d (.st nm),.d (.int .i64 so),.d (.int .i64 of),owLV 66003 2 fs,owLV 66004 3 gs],69⟩
def sortB:Spec3:=fun ys bx ar Kr Kp=>∃t s fl fc x0 f2 f3 nm fs fty,tabD x0 t/\ys=[.d x0,.bp 1000 0,.d (qzr s),.d (.sl 5 (qze fl) f2),.d (.sl 5 (qze fc) f3)]/\
 bx 1000=some (tyx nm 0 0 fs [])/\(fs≠[]->ar 66003=some (2,fty,fs))/\t.length<=4096/\fl.length<=4096/\fc.length<=4096/\Lg.IsSo s/\
 match Lg.sortR t s fl fc with
 |.ok (k,o)=>∀fty',tyo fty'=tyo fty->Kr (.tup []) (put 1000 (tyx nm k o fs []) nix) (owAr 66003 2 fty' fs nix)
 |.error (p,c)=>∀bx',(∀ks,N3 bx' 0 ks=[])->Kp (zko p c) bx'
theorem qkj {n:Tree}(h:n.kids≠[]):(qze n.kids)[0]?=some (qzr (Lg.kid0 n))/\(0:Int)<n.kids.length:=by
 unfold Lg.kid0
 cases e:n.kids with
 |nil=>exact absurd e h
 |cons k ks=>exact⟨by simp[qze],by simp⟩
theorem ow_A {ar:Ar}{r sz ty:Nat}{xs:List D}(h:xs≠[]->ar r=some (sz,ty,xs)):∃A,hasA ar A/\∀rest,puta (A++rest)=owAr r sz ty xs (puta rest):=by
 cases xs with
 |nil=>exact⟨[],trivial,fun rest=>rfl⟩
 |cons x xs=>exact⟨[(r,(sz,ty,x::xs))],⟨h (by simp),trivial⟩,fun rest=>rfl⟩
theorem zv2 {ar:Ar}:∀{A B:List (Nat×(Nat×TypeId×List D))},hasA ar A->hasA ar B->hasA ar (A++B)
 |[],B,_,h=>h
 |_::_,B,h,h'=>⟨h.1,zv2 h.2 h'⟩
theorem sortB_OK:OK3 Tryz.prog 95 sortB:=by
 refine fn_OK3 qzu (E:=EV) (sp:=spL [(134,.b idxB.up),(94,.b nmbS.up),(91,.b mustT.up),(92,.b findS.up)]) qzt qzl (OKs.ok ⟨idxB_OK.up,⟨nmb_OK.up,⟨mustT_OK.up,⟨find_OK.up,trivial⟩⟩⟩⟩) func95 rfl ntmps95 results95 call95 [1000] qwu ?_;rintro ys bx ar Kr Kp ⟨t,s,fl,fc,x0,f2,f3,nm,fs,fty,htab,rfl,hb,har,ht,hfl,hfc,hso,hK⟩;obtain⟨A,hA1,hA2⟩:=ow_A har
 refine⟨[(1000,tyx nm 0 0 fs [])],A,rfl,⟨by decide,hb,trivial⟩,hA1,by simp,?_⟩
 have hA3:=hA2 [];rw[List.append_nil]at hA3;rw[hA3];clear hA1 hA2 hA3 A har hb
 rcases fs with _|⟨z,fs⟩
 all_goals
  simp only[tyx,go_sem]
  refine⟨Lg.sorts,s.text,true,rfl,by decide,?_⟩
  simp only[go_sem];unfold Lg.sortR at hK;have hsx:Lg.qxf s.text=Lg.idxF (fun x=>x==s.text) Lg.sorts 0:=rfl;unfold Lg.IsSo at hso;rw[hsx]at hK hso
  generalize Lg.idxF (fun x=>x==s.text) Lg.sorts 0=k at hK hso⊢
  clear hsx;by_cases h2:k=2
  · subst h2;have hne:=hso (.inl rfl);simp only[bne_self_eq_false,beq_self_eq_true,Bool.false_eq_true,Bool.true_eq_false,false_implies,true_implies,true_and,and_true,eq_self,go_sem];refine qzm [7] [0,1,2,4,5,6,7,8,9] (wE 3 10 11 (wT 12 (wA 13 wZ))) ?_;simp only[go_sem];obtain⟨e0,hp⟩:=qkj hne;refine⟨hp,?_⟩;rw[e0];simp only[go_sem];refine⟨_,_,fl,f2,rfl,⟨_,_,_,_,_,rfl,rfl,rfl⟩,hfl,?_⟩;simp only[go_sem];refine qzm [] [0,1,2,5] (wE 3 4 6 wZ) ?_;simp only[go_sem];rw[if_pos (.inl rfl)]at hK
    refine⟨_,s,_,by rw[qzy],fun h=>?_,fun h=>?_⟩
    · rw[if_pos (lF h)]at hK;simp only[go_sem]
      first|exact⟨_,.nil,hK fty rfl⟩|exact⟨_,.nil,hK _ (qzq fty)⟩
    ·rw[if_neg (lG h)]at hK;exact⟨rfl,hK _ (qxt _ _ · _)⟩
  by_cases h3:k=3
  · subst h3;have hne:=hso (.inr (.inl rfl));simp only[bne_self_eq_false,beq_self_eq_true,Bool.false_eq_true,Bool.true_eq_false,false_implies,true_implies,true_and,and_true,eq_self,go_sem];refine qzm [7] [0,1,2,4,5,6,7,8,9] (wE 3 10 11 (wT 12 (wA 13 wZ))) ?_;simp only[go_sem];obtain⟨e0,hp⟩:=qkj hne;refine⟨hp,?_⟩;rw[e0];simp only[go_sem];refine⟨_,_,fl,f2,rfl,⟨_,_,_,_,_,rfl,rfl,rfl⟩,hfl,?_⟩;simp only[go_sem];refine qzm [] [0,1,2,5] (wE 3 4 6 wZ) ?_;simp only[go_sem];rw[if_pos (.inr rfl)]at hK
    refine⟨_,s,_,by rw[qzy],fun h=>?_,fun h=>?_⟩
    · rw[if_pos (lF h)]at hK;simp only[go_sem]
      first|exact⟨_,.nil,hK fty rfl⟩|exact⟨_,.nil,hK _ (qzq fty)⟩
    ·rw[if_neg (lG h)]at hK;exact⟨rfl,hK _ (qxt _ _ · _)⟩
  rw[if_neg (by rintro(h|h);exact h2 h;exact h3 h)]at hK
  have b2:(k==2)=false:=by simpa using h2
  have b3:(k==3)=false:=by simpa using h3
  by_cases h4:k=4
  · subst h4;have hne:=hso (.inr (.inr rfl));simp only[b2,b3,bne_self_eq_false,beq_self_eq_true,Bool.false_eq_true,Bool.true_eq_false,false_implies,true_implies,true_and,and_true,eq_self,go_sem];obtain⟨e0,hp⟩:=qkj hne;refine⟨hp,?_⟩;rw[e0];simp only[go_sem];refine⟨_,t,x0,rfl,htab,ht,?_⟩;simp only[go_sem];rw[if_pos rfl]at hK;have hr:=Lg.qjx (fun x:Ty=>x.name==(Lg.kid0 s).text) t 0;have hfd:Lg.qkv t (Lg.kid0 s).text=Lg.idxF (fun x:Ty=>x.name==(Lg.kid0 s).text) t 0:=rfl;rw[<-hfd]at hr
    generalize Lg.qkv t (Lg.kid0 s).text=q at hK hr⊢
    clear hfd
    rcases hr with rfl|⟨hr0,hr1⟩
    · rw[if_neg (by rintro⟨h,_⟩;exact absurd h (by decide))]at hK;refine qzm [7] [0,1,2,16] (wD 3 4 (wT 5 (wB 6 (wJ 7 8 9 10 11 12 13 14 (wD 15 17 wZ)) 7 (wB 6 (wJ 8 9 10 11 12 13 14 15 (wA 17 wZ)) 8 (wB 6 (wJ 9 10 11 12 13 14 15 17 wZ) 9 (wB 6 (wI 10 11 12 13 14 15 17 wZ) 10 (wI 6 11 12 13 14 15 17 wZ))))))) ?_;simp only[decide_false,bne_self_eq_false,beq_self_eq_true,Bool.false_eq_true,Bool.true_eq_false,false_implies,true_implies,true_and,and_true,eq_self,go_sem]
      repeat' apply And.intro
      all_goals
       refine⟨_,s,_,by rw[qzy],fun h=>absurd h (by decide),fun h=>?_⟩
       exact⟨rfl,hK _ (qxt _ _ · _)⟩
    · obtain⟨j,rfl⟩:∃j:Nat,q=j:=⟨q.toNat,by omega⟩
      have hj:j<t.length:=by omega
      obtain⟨f1,rfl⟩:∃f,x0=.sl 5 (t.map qqk) f:=by
       rcases htab with h|⟨_,rfl⟩
       ·exact h
       ·simp at hj
      have c0:decide (0<=(j:Int))=true:=by simp
      rw[lA,lD hj]at hK;refine qzm [7] [0,1,2,16] (wD 3 4 (wT 5 (wB 6 (wJ 7 8 9 10 11 12 13 14 (wD 15 17 wZ)) 7 (wB 6 (wJ 8 9 10 11 12 13 14 15 (wA 17 wZ)) 8 (wB 6 (wJ 9 10 11 12 13 14 15 17 wZ) 9 (wB 6 (wI 10 11 12 13 14 15 17 wZ) 10 (wI 6 11 12 13 14 15 17 wZ))))))) ?_;simp only[c0,lE,bne_self_eq_false,beq_self_eq_true,Bool.false_eq_true,Bool.true_eq_false,false_implies,true_implies,true_and,and_true,eq_self,go_sem]
      repeat' apply And.intro
      all_goals first
       |omega
       | (rw[lA,qvh hj]
          simp only[bne_self_eq_false,beq_self_eq_true,Bool.false_eq_true,Bool.true_eq_false,false_implies,true_implies,true_and,and_true,eq_self,go_sem]
          refine⟨_,s,_,by rw[qzy],fun h=>?_,fun h=>?_⟩
          · have h3:t[j].sort=3:=by simpa using h
            rw[if_pos ⟨by omega,by simp[h3]⟩]at hK
            simp only[go_sem]
            refine⟨⟨by omega,by omega⟩,_,s,_,by rw[qzy],fun h=>?_,fun h=>?_⟩
            · have h5:=eq_of_beq h;rw[if_pos (by omega)]at hK;simp only[go_sem]
              first|exact⟨_,.nil,hK fty rfl⟩|exact⟨_,.nil,hK _ (qzq fty)⟩
            · have h5:¬((fl.length:Int)+fc.length=0):=by simpa using h
              rw[if_neg (by omega)]at hK;exact⟨rfl,hK _ (qxt _ _ · _)⟩
          · have h3:¬t[j].sort=3:=by simpa using h
            rw[if_neg (by rintro⟨_,h⟩;simp at h;exact h3 h)]at hK
            exact⟨rfl,hK _ (qxt _ _ · _)⟩)
  · have b4:(k==4)=false:=by simpa using h4
    simp only[b2,b3,b4,bne_self_eq_false,beq_self_eq_true,Bool.false_eq_true,Bool.true_eq_false,false_implies,true_implies,true_and,and_true,eq_self,go_sem];rw[if_neg h4]at hK
    first|exact⟨_,.nil,hK fty rfl⟩|exact⟨_,.nil,hK _ (qzq fty)⟩
open Lg (Tok Tree Ty Par)
section
variable (p:Par)
@[go_sem ↓]theorem par_lcs:D.lcs (parD p)=[.d (.st p.name),.d (.int .i64 p.mode),.d (.int .i64 p.typ)]:=(rfl)
@[go_sem ↓]theorem par_cs:D.cs (parD p)=[.st p.name,.int .i64 p.mode,.int .i64 p.typ]:=(rfl)
@[go_sem ↓]theorem par_flat:D.flat (parD p)=true:=(rfl)
@[go_sem ↓]theorem par_lcells:qqz (.d (parD p))=some [.d (.st p.name),.d (.int .i64 p.mode),.d (.int .i64 p.typ)]:=(rfl)
@[go_sem ↓]theorem par_pcs:pcs (.d (parD p))=some [.d (.st p.name),.d (.int .i64 p.mode),.d (.int .i64 p.typ)]:=(rfl)
@[go_sem ↓]theorem par_one:one (.d (parD p))=false:=(rfl)
end
theorem par_ag (p:Par):D.ag [.st p.name,.int .i64 p.mode,.int .i64 p.typ]=parD p:=rfl
def pbx (p:Par):Box:=⟨[.d (.st p.name),.d (.int .i64 p.mode),.d (.int .i64 p.typ)],46⟩
def pickP (f:Par->Par->Bool):Spec3:=fun ys bx ar Kr Kp=>∃p x,ys=[.d (parD x),.bp 1000 0]/\bx 1000=some (pbx p)/\Kr (.d (.bool (f p x))) (put 1000 (pbx p) nix) nix
theorem sameN_OK:OK3 Tryz.prog 99 (pickP Lg.sameN):=by
 refine fn_OK3 qzu (E:=EV) (sp:=spL []) qzt qzl (OKs.ok trivial) func99 rfl ntmps99 results99 call99 [1000] qwu ?_;rintro ys bx ar Kr Kp ⟨p,x,rfl,hb,hK⟩
 refine⟨[(1000,pbx p)],[],rfl,⟨by decide,hb,trivial⟩,trivial,by simp,?_⟩
 simp only[pbx,go_sem];exact⟨_,qzb (.rfl _),hK⟩
theorem sameT_OK:OK3 Tryz.prog 101 (pickP Lg.sameT):=by
 refine fn_OK3 qzu (E:=EV) (sp:=spL []) qzt qzl (OKs.ok trivial) func101 rfl ntmps101 results101 call101 [1000] qwu ?_;rintro ys bx ar Kr Kp ⟨p,x,rfl,hb,hK⟩
 refine⟨[(1000,pbx p)],[],rfl,⟨by decide,hb,trivial⟩,trivial,by simp,?_⟩
 simp only[pbx,go_sem]
 refine⟨fun h=>⟨_,qzb (.rfl _),?_⟩,fun h=>⟨_,qzb (.rfl _),?_⟩⟩
 ·simp only[Lg.sameT,h,Bool.true_and]at hK;exact hK
 ·simp only[Lg.sameT,h,Bool.false_and]at hK;exact hK
def ixpS (f:Nat)(q:Par->Par->Bool):Spec3:=fun ys bx ar Kr Kp=>∃p l v,ys=[.d v,.fn (.func f) [] [.bp 1000 0]]/\qvf 3 v (l.map parD)/\bx 1000=some (pbx p)/\l.length<=4096/\
 Kr (.d (.int .i64 (Lg.idxF (q p) l 0))) (put 1000 (pbx p) nix) nix
theorem ixp_OK (f:Nat)(q:Par->Par->Bool)(hf:OK3 Tryz.prog f (pickP q)):OK3 Tryz.prog 136 (ixpS f q):=by
 refine fn_OK3 qzu (E:=EV) (sp:=spL [(f,.b (pickP q))]) qzt qzl (OKs.ok ⟨hf,trivial⟩) func136 rfl ntmps136 results136 call136 [1000] qwu ?_;rintro ys bx ar Kr Kp ⟨p,l,v,rfl,hv,hb,hl,hK⟩
 refine⟨[(1000,pbx p)],[],rfl,⟨by decide,hb,trivial⟩,trivial,by simp,?_⟩
 rcases hv with⟨fl,rfl⟩|⟨rfl,hn⟩
 rotate_left
 · have:l=[]:=by simpa using hn
   subst this;simp only[go_sem];refine qzj (T:=Unit) (fun _=>⟨19,put 7 (.d (.int .i64 0)) (put 8 (.d (.int .i64 0)) nix),put 1000 (pbx p) nix,nix⟩) (fun _=>0) () (qzh (sP2 qza) (sP1 qza) qza) ?_;rintro⟨⟩;simp only[pbx,go_sem]
   exact⟨fun h=>absurd h (by simp),fun _=>⟨_,qzb (.rfl _),hK⟩⟩
 simp only[lE,go_sem]
 refine qzj (T:={i:Nat //i<=l.length/\Lg.idxF (q p) l 0=Lg.idxF (q p) (l.drop i) i}) (fun i=>⟨19,put 0 (.d (.sl 3 (l.map parD) fl)) (put 1 (.fn (.func f) [] [.bp 1000 0]) (put 7 (.d (.int .i64 l.length)) (put 8 (.d (.int .i64 i.1)) nix))),put 1000 (pbx p) nix,nix⟩) (fun i=>l.length-i.1) ⟨0,by omega,rfl⟩
  (qzh (sP4 qza) (sP1 qza) qza) ?_
 rintro⟨i,hi,hx⟩;simp only[lE,go_sem]
 refine⟨fun h=>?_,fun h=>?_⟩
 · have hlt:i<l.length:=by have:=lF h;omega
   rw[List.drop_eq_getElem_cons hlt,Lg.idxF]at hx
   refine⟨by omega,by omega,?_⟩
   rw[lA,qvh hlt];simp only[par_ag,pbx,go_sem];refine⟨p,l[i],rfl,rfl,?_⟩;simp only[pbx,go_sem]
   refine⟨fun h=>?_,fun h=>?_⟩
   ·rw[if_pos h]at hx;rw[hx]at hK;exact⟨_,qzb (.rfl _),hK⟩
   · rw[if_neg (by rw[h];decide)]at hx
     exact⟨⟨by omega,by omega⟩,⟨i+1,hlt,hx⟩,qzh (sP4 qza) (sP1 qza) qza,by show l.length-(i+1)<l.length-i;omega⟩
 · have:i=l.length:=by have:=lG h;omega
   subst this;rw[List.drop_length,Lg.idxF]at hx;rw[hx]at hK;simp only[pbx,go_sem];exact⟨_,qzb (.rfl _),hK⟩
def hasPS (f:Nat)(q:Par->Par->Bool):Spec3:=fun ys bx ar Kr Kp=>∃p l v,ys=[.d v,.fn (.func f) [] [.bp 1000 0]]/\qvf 3 v (l.map parD)/\bx 1000=some (pbx p)/\l.length<=4096/\
 Kr (.d (.bool (Lg.hasP (q p) l))) (put 1000 (pbx p) nix) nix
theorem hasP_OK (f:Nat)(q:Par->Par->Bool)(hf:OK3 Tryz.prog f (pickP q)):OK3 Tryz.prog 98 (hasPS f q):=by
 refine fn_OK3 qzu (E:=EV) (sp:=spL [(136,.b (ixpS f q))]) qzt qzl (OKs.ok ⟨(ixp_OK f q hf),trivial⟩) func98 rfl ntmps98 results98 call98 [1000] qwu ?_;rintro ys bx ar Kr Kp ⟨p,l,v,rfl,hv,hb,hl,hK⟩
 refine⟨[(1000,pbx p)],[],rfl,⟨by decide,hb,trivial⟩,trivial,by simp,?_⟩
 simp only[pbx,go_sem];refine⟨p,l,v,rfl,hv,rfl,hl,?_⟩;simp only[pbx,go_sem];exact⟨_,qzb (.rfl _),hK⟩
def has2S:Spec3:=fun ys bx ar Kr Kp=>hasPS 99 Lg.sameN ys bx ar Kr Kp\/hasPS 101 Lg.sameT ys bx ar Kr Kp
theorem OK3.or {P:Program}{f:FuncId}{A B:Spec3}(h1:OK3 P f A)(h2:OK3 P f B):OK3 P f (fun ys bx ar Kr Kp=>A ys bx ar Kr Kp\/B ys bx ar Kr Kp) where
 enters:=h1.enters
 calls ys bx ar Kr Kp hS g vs w has hwd:=by
  rcases hS with hS|hS
  ·exact h1.calls ys bx ar Kr Kp hS g vs w has hwd
  ·exact h2.calls ys bx ar Kr Kp hS g vs w has hwd
theorem has2_OK:OK3 Tryz.prog 98 has2S:=(hasP_OK 99 _ sameN_OK).or (hasP_OK 101 _ sameT_OK)
def smodeS:Spec:=fun ys bx Kr Kp=>∃n td T,ys=[.d (qzr n),.d td]/\tabD td T/\T.length<=4096/\
 Kr (.tup [.d (parD (Lg.parOf T n)),.d (.int .i64 (match Lg.modeR T n with|.ok _=>0|.error e=>e))]) nix none
theorem smode_OK:OK Tryz.prog 97 smodeS:=by
 refine fn_OK' qzu (E:=EV) (sp:=spL [(134,idxB),(92,findS)]) qzt qzl (OKs.ok ⟨idxB_OK,⟨find_OK,trivial⟩⟩) func97 rfl ntmps97 results97 call97 [] none ?_;rintro ys bx Kr Kp ⟨n,td,T,rfl,htd,hl,hK⟩
 refine⟨[],rfl,trivial,by simp,?_⟩
 simp only[go_sem]
 refine⟨Lg.modes,n.text,true,rfl,by decide,?_⟩
 simp only[go_sem]
 refine⟨fun h=>?_,fun h=>?_⟩
 · have hne:n.kids≠[]:=fun e=>by rw[e]at h;simp at h
   obtain⟨q0,q1⟩:=qkj hne;refine⟨q1,?_⟩;rw[q0];simp only[go_sem];refine⟨_,T,td,rfl,htd,hl,?_⟩;simp only[go_sem]
   have he:n.kids.isEmpty=false:=by cases e:n.kids with
    |nil=>exact absurd e hne
    |cons a b=>rfl
   rw[Lg.parOf,Lg.modeR,if_neg (by rw[he];decide)]at hK
   refine⟨fun h=>?_,fun h=>?_⟩
   ·rw[if_pos (lF h)]at hK;exact⟨_,.cons (.rfl _) (qzb (.rfl _)),hK⟩
   ·rw[if_neg (lG h)]at hK;exact⟨_,.cons (.rfl _) (qzb (.rfl _)),hK⟩
 · have he:n.kids.isEmpty=true:=by cases e:n.kids with
    |nil=>rfl
    |cons a b=>rw[e]at h;simp at h
   rw[Lg.parOf,Lg.modeR,if_pos he]at hK;exact⟨_,.cons (.rfl _) (qzb (.rfl _)),hK⟩
def sharedS:Spec:=fun ys bx Kr Kp=>∃p td T,ys=[.d (parD p),.d td]/\tabD td T/\(1<p.mode->0<=p.typ/\p.typ<T.length)/\Kr (.d (.bool (Lg.sharedR T p))) nix none
theorem shared_OK:OK Tryz.prog 100 sharedS:=by
 refine fn_OK' qzu (E:=EV) (sp:=spL []) qzt qzl (OKs.ok trivial) func100 rfl ntmps100 results100 call100 [] none ?_;rintro ys bx Kr Kp ⟨p,td,T,rfl,htd,hp,hK⟩
 refine⟨[],rfl,trivial,by simp,?_⟩
 by_cases h1:1<p.mode
 · obtain⟨h2,h3⟩:=hp h1
   obtain⟨f,rfl⟩:∃f,td=.sl 5 (T.map qqk) f:=by
    rcases htd with h|⟨_,h⟩
    ·exact h
    ·subst h;simp at h3;omega
   obtain⟨t,ht⟩:∃t,T[p.typ.toNat]?=some t:=⟨_,lD (by omega)⟩
   have htg:(T.map qqk)[p.typ.toNat]?=some (qqk t):=by rw[List.getElem?_map,ht];rfl
   have hta:Lg.tyAt T p.typ=t:=by rw[Lg.tyAt,ht];rfl
   simp only[htg,lE,go_sem];rw[Lg.sharedR,hta]at hK
   refine⟨fun h=>⟨h2,h3,?_⟩,fun h=>absurd h1 (lG h)⟩
   rw[h,Bool.true_and]at hK;exact⟨_,qzb (.rfl _),hK⟩
 · simp only[go_sem]
   refine⟨fun h=>absurd (lF h) h1,fun h=>?_⟩
   rw[Lg.sharedR,h,Bool.false_and]at hK;exact⟨_,qzb (.rfl _),hK⟩
open Lg (Tok Tree Ty Par Sg)
def sgx (nm:List UInt8)(ps:List D)(m k:Int):Box:=⟨[.d (.st nm),owLV 85 3 ps,.d (.st []),.d (.int .i64 m),.d (.int .i64 k)],48⟩
def zsD:D:=.ag [.st [],.sl 3 [] false,.st [],.int .i64 0,.int .i64 0]
theorem le_nil5 {x:D}(sz:Nat)(ds:List D):D.le (.ag (x:: .imm (.slice none 0 0)::ds)) (.ag (x:: .sl sz [] false::ds)):=.ag (.cons (.rfl _) (.cons (.nil _ _) (D.les.refl _)))
theorem qwi (xs:List Tree)(i:Nat):(qze xs)[i]?=xs[i]?.map qzr:=by
 induction xs generalizing i with
 |nil=>rfl
 |cons x xs ih=>cases i with
  |zero=>rfl
  |succ i=>exact ih i
theorem treeDs_take2 (xs:List Tree)(i:Nat):(qze xs).take i=qze (xs.take i):=by
 induction xs generalizing i with
 |nil=>simp[qze]
 |cons x xs ih=>cases i with
  |zero=>simp[qze]
  |succ i=>simp[qze,ih]
def sigS:Spec:=fun ys bx Kr Kp=>∃n td T,ys=[.d (qzr n),.d td]/\tabD td T/\T.length<=4096/\n.kids.length<=4096/\Lg.IsFn n/\
 match Lg.sigR T n with
 |.ok g=>Kr (.tup [.d (sigD g),.d (.int .i64 0),.d (.int .i64 0)]) nix none
 |.error (a,c)=>Kr (.tup [.d zsD,.d (.int .i64 a),.d (.int .i64 c)]) nix none
def tyAf (l:List Par)(t:Nat):Nat:=match l with
 |[]=>46
 |_=>t
def zjx (T:List Ty)(PS:List Tree)(ps:List Par)(i:Nat):Prop:=Lg.qji T PS []=Lg.qji T (PS.drop i) ps
theorem sig_OK:OK Tryz.prog 50 sigS:=by
 refine fn_OK' qzu (E:=EV) (sp:=spL [(97,.b smodeS.up),(98,.b has2S),(100,.b sharedS.up)]) qzt qzl (OKs.ok ⟨smode_OK.up,⟨has2_OK,⟨shared_OK.up,trivial⟩⟩⟩) func50 rfl ntmps50 results50 call50 [] none ?_;rintro ys bx Kr Kp ⟨n,td,T,rfl,htd,hTl,hnl,⟨PS,r,b,hk,hPS,hr⟩,hK⟩
 refine⟨[],rfl,trivial,by simp,?_⟩
 have hkl:n.kids.length=PS.length+2:=by rw[hk];simp
 have hl2:n.kids.length-2=PS.length:=by omega
 have htk:n.kids.take PS.length=PS:=by rw[hk];simp
 have hrg:n.kids[PS.length]?=some r:=by rw[hk];simp
 rw[Lg.sigR,hl2,htk,hrg,Option.getD_some]at hK
 have hsub:(n.kids.length:Int)-2=PS.length:=by omega
 simp only[hsub,go_sem]
 refine⟨⟨by omega,by omega⟩,fun h8=>?_,fun h8=>?_⟩
 · rw[if_pos (by have:=lF h8;omega)]at hK;refine qzm [2] [] (wT 1 (wR 2 (wD 0 3 (wT 4 (wT 5 wZ))))) ?_;simp only[go_sem]
   repeat' apply And.intro
   all_goals exact⟨_,.cons (le_nil5 _ _) (.cons (.rfl _) (qzb (.rfl _))),hK⟩
 have h8':PS.length<=8:=by have:=lG h8;omega
 rw[if_neg (by omega)]at hK
 refine⟨by omega,by omega,?_⟩
 have htk':(qze n.kids).take (PS.length:Int).toNat=qze PS:=by rw[lA,treeDs_take2,htk]
 refine qzj (T:={q:List Par×Nat×Nat //zjx T PS q.1 q.2.1/\q.2.1<=PS.length/\q.1.length=q.2.1/\tyo q.2.2=46})
  (fun q=>⟨110,put 1 (.d td) (put 2 (.bp 2 0) (put 4 (.bp 4 0) (put 7 (.bp 7 0) (put 8 (.d (.int .i64 PS.length)) (put 29 (.d (.sl 5 (qze PS) false)) (put 30 (.d (.int .i64 PS.length)) (put 31 (.d (.int .i64 q.1.2.1)) nix))))))),put 2 ⟨[.d (.int .i64 n.kind),.d (.st n.text),.d (.int .i64 n.num),.d (.int .i64 n.pos),.d (.sl 5 (qze n.kids) false)],92⟩ (put 4 ⟨[.d (.st []),.d (.imm (.slice none 0 0)),.d (.st []),.d (.int .i64 0),.d (.int .i64 0)],48⟩ (put 7 (sgx n.text (q.1.1.map parD) 0 0) nix)),owAr 85 3 q.1.2.2 (q.1.1.map parD) nix⟩) (fun q=>PS.length-q.1.2.1)
  ⟨([],0,46),by rw[zjx,List.drop_zero],by simp,rfl,rfl⟩ (qzh (sP5 (qzd (by simp only[htk',go_sem]) (qzd (by simp only[go_sem];rw[htk',qzn]) (sP1 qza)))) (sP3 qza) qza) ?_
 rintro⟨⟨ps,i,ty⟩,g1,g2,g3,g4⟩;have hrel:zjx T PS ps i:=g1;have hi:i<=PS.length:=g2;have hpi:ps.length=i:=g3;have hty:tyo ty=46:=g4;dsimp only;clear g1 g2 g3 g4;have hty1:tyo (lnt ty)=46:=(qzq ty).trans hty;have hty2:tyo (lnt (lnt ty))=46:=(qzq _).trans hty1;obtain⟨l,hpl⟩:∃l,l=ps:=⟨_,rfl⟩
 rcases ps with _|⟨z,ps⟩
 all_goals
  have hpi2:=hpi;simp only[lB,lH]at hpi2;simp only[List.map_nil,List.map_cons,sgx,go_sem]
  refine⟨fun h=>?_,fun h=>?_⟩
  · have hlt:i<PS.length:=by have:=lF h;omega
    refine⟨by omega,by omega,?_⟩
    rw[lA,treeDs_at' hlt];rw[zjx,List.drop_eq_getElem_cons hlt,Lg.qji]at hrel;obtain⟨m,hkm,hmd,hmt⟩:=hPS _ (List.getElem_mem hlt)
    generalize PS[i]=k at hrel hkm⊢
    have e0:Lg.kid0 k=m:=by unfold Lg.kid0;rw[hkm];rfl
    have hg0:(qze k.kids)[0]?=some (qzr m):=by rw[hkm];simp[qze]
    have hkl1:k.kids.length=1:=by rw[hkm];rfl
    rw[Lg.qk3,e0]at hrel;simp only[hg0,hkl1,go_sem]
    refine⟨m,td,T,by rw[qzy],htd,hTl,?_⟩
    cases hmr:Lg.modeR T m with
    |error e=>
     have he:e=31:=by
      unfold Lg.modeR at hmr;split at hmr
      ·cases hmr
      · split at hmr
        ·cases hmr;rfl
        ·cases hmr
     subst he;rw[hmr]at hrel;rw[Lg.parOf,hmr];unfold Lg.noPar;simp only[unC,go_sem]
     refine .inl ⟨⟨k.text,0,0⟩,l,_,rfl,(by rw[hpl];first|exact .inr ⟨rfl,rfl⟩|exact .inl ⟨_,rfl⟩),rfl,(by rw[hpl,hpi];omega),?_⟩
     rw[hpl];simp only[pbx,go_sem]
     refine⟨fun hx=>?_,fun hx=>?_⟩
     · rw[if_pos hx,Lg.sbnd]at hrel;rw[hrel]at hK;refine qzm [10] [] (wT 1 (wR 2 (wD 0 3 (wT 4 (wT 5 wZ))))) ?_;simp only[go_sem]
       repeat' apply And.intro
       all_goals exact⟨_,.cons (le_nil5 _ _) (.cons (.rfl _) (qzb (.rfl _))),hK⟩
     · rw[if_neg (by rw[hx];decide),Lg.sbnd]at hrel;rw[hrel]at hK;refine qzm [10] [] (wT 1 (wT 6 (wR 2 (wR 3 (wT 4 (wR 5 (wD 0 7 (wT 8 (wT 9 wZ))))))))) ?_;simp only[hg0,hkl1,go_sem]
       repeat' apply And.intro
       all_goals first|omega|exact⟨_,.cons (le_nil5 _ _) (.cons (.rfl _) (qzb (.rfl _))),hK⟩
    |ok p=>
     rw[hmr]at hrel;rw[Lg.parOf,hmr];obtain⟨_,_,hpm,_⟩:=Lg.modeR_ok hmd hmr;have hpm:=hpm hmt;simp only[unC,go_sem]
     rw[show Lg.sameN ⟨k.text,0,0⟩=Lg.sameN ⟨k.text,p.mode,p.typ⟩ from rfl]at hrel
     refine .inl ⟨⟨k.text,p.mode,p.typ⟩,l,_,rfl,(by rw[hpl];first|exact .inr ⟨rfl,rfl⟩|exact .inl ⟨_,rfl⟩),rfl,(by rw[hpl,hpi];omega),?_⟩
     rw[hpl];simp only[pbx,go_sem]
     refine⟨fun hx=>?_,fun hx=>?_⟩
     · rw[if_pos hx,Lg.sbnd]at hrel;rw[hrel]at hK;refine qzm [10] [] (wT 1 (wR 2 (wD 0 3 (wT 4 (wT 5 wZ))))) ?_;simp only[go_sem]
       repeat' apply And.intro
       all_goals exact⟨_,.cons (le_nil5 _ _) (.cons (.rfl _) (qzb (.rfl _))),hK⟩
     · rw[if_neg (by rw[hx];decide)]at hrel;dsimp only at hrel
       refine⟨⟨k.text,p.mode,p.typ⟩,td,T,rfl,htd,fun h1=>hpm.2.2 (by simp only at h1;omega),?_⟩
       rw[show Lg.sharedR T ⟨k.text,p.mode,p.typ⟩=Lg.sharedR T p from rfl]
       simp only[go_sem]
       refine⟨fun hs=>?_,fun hs=>?_⟩
       · refine .inr ⟨⟨k.text,p.mode,p.typ⟩,l,_,rfl,(by rw[hpl];first|exact .inr ⟨rfl,rfl⟩|exact .inl ⟨_,rfl⟩),rfl,(by rw[hpl,hpi];omega),?_⟩
         rw[hpl,show Lg.sameT ⟨k.text,p.mode,p.typ⟩=Lg.sameT p from rfl]
         simp only[pbx,go_sem]
         refine⟨fun hx=>?_,fun hx=>?_⟩
         · rw[if_pos (by rw[hs,hx];rfl),Lg.sbnd]at hrel;rw[hrel]at hK;refine qzm [10] [] (wT 1 (wR 2 (wR 3 (wT 4 (wR 5 (wD 0 6 (wT 7 (wT 8 wZ)))))))) ?_;simp only[hg0,hkl1,go_sem]
           repeat' apply And.intro
           all_goals first|omega|exact⟨_,.cons (le_nil5 _ _) (.cons (.rfl _) (qzb (.rfl _))),hK⟩
         · rw[if_neg (by rw[hs,hx];decide),Lg.sbnd]at hrel
           repeat' apply And.intro
           all_goals first
            |omega
            |exact hty
            |exact hty1
            |exact hty2
            |exact⟨⟨(l++[⟨k.text,p.mode,p.typ⟩],i+1,tyAf l (lnt (lnt ty))),by rw[hpl];exact hrel,hlt,by rw[hpl,lC,hpi];rfl,by rw[hpl];first|rfl|exact hty2⟩,qzh (sP6 (sP2 qza)) (sP2 (qzd (by simp[put,sgx,owLV,parD,hpl]) qza)) (qqf (fun _=>by simp[put,parD,lnt,hpl,tyAf]<;>rfl) qza),by show PS.length-(i+1)<PS.length-i;omega⟩
       · rw[hs,Bool.false_and,if_neg (by decide),Lg.sbnd]at hrel
         repeat' apply And.intro
         all_goals first
          |omega
          |exact hty
          |exact hty1
          |exact hty2
          |exact⟨⟨(l++[⟨k.text,p.mode,p.typ⟩],i+1,tyAf l (lnt ty)),by rw[hpl];exact hrel,hlt,by rw[hpl,lC,hpi];rfl,by rw[hpl];first|rfl|exact hty1⟩,qzh (sP6 (sP2 qza)) (sP2 (qzd (by simp[put,sgx,owLV,parD,hpl]) qza)) (qqf (fun _=>by simp[put,parD,lnt,hpl,tyAf]<;>rfl) qza),by show PS.length-(i+1)<PS.length-i;omega⟩
  · have hie:i=PS.length:=by have:=lG h;omega
    rw[zjx,hie,List.drop_length,Lg.qji]at hrel;rw[hrel,Lg.sbnd]at hK;simp only[qwi,go_sem]
    refine⟨by omega,by omega,?_⟩
    rw[lA,hrg];simp only[go_sem]
    refine⟨r,td,T,by rw[qzy],htd,hTl,?_⟩
    cases hmr:Lg.modeR T r with
    |error e=>
     have he:e=31:=by
      unfold Lg.modeR at hmr;split at hmr
      ·cases hmr
      · split at hmr
        ·cases hmr;rfl
        ·cases hmr
     subst he;rw[hmr]at hK;rw[Lg.parOf,hmr];unfold Lg.noPar;simp only[go_sem];refine qzm [2] [] (wT 1 (wT 3 (wT 7 (wR 2 (wR 4 (wT 5 (wR 6 (wD 0 8 (wT 9 (wT 10 wZ)))))))))) ?_;simp only[qwi,go_sem]
     repeat' first|apply And.intro|(rw[lA,hrg];simp only[go_sem])
     all_goals first|omega|exact⟨_,.cons (le_nil5 _ _) (.cons (.rfl _) (qzb (.rfl _))),hK⟩
    |ok p=>
     rw[hmr]at hK;rw[Lg.parOf,hmr];simp only[go_sem]
     first
      |exact⟨_,.cons (le_nil5 _ _) (.cons (.rfl _) (qzb (.rfl _))),hK⟩
      |exact⟨_,.cons (.rfl _) (.cons (.rfl _) (qzb (.rfl _))),hK⟩
end Lx
