import Derived.Test.YtkknljojdgpdaaaGreatDoorA20
import Derived.Test.YtkknljojdgpdaaaGreatDoorA16
import Derived.Test.YtkknljojdgpdaaaGreatDoorA10
set_option maxHeartbeats 32000000
set_option linter.unusedSimpArgs false
set_option linter.unusedVariables false
set_option maxRecDepth 20000
namespace Lx
open Go
open Lg (Tok Tree Ty)
open Go.Proofs (Tryz.prog)
open Go.Proofs.Tryz
def seqR':Code->Code
 |.seq _ b=>b
 |c=>c
abbrev ERo:Env:=mkE false (fun j=>j==177) (fun _=>true)
abbrev spR:FuncId->Option SpecX:=spL [(111,.a rkidsS),(112,.a rfindT),(113,.a rnumS),(114,.a factsS)]
@[go_sem]theorem fgt_ow {k r sz:Nat}{xs:List D}(h:(r==k)=false):fgt k (owLV r sz xs)=owLV r sz xs:=by
  cases xs with
  |nil=>rfl
  |cons x xs=>simp only[owLV,fgt];rw[if_neg (by simpa using h)]
@[go_sem]theorem fzb_ow {k r sz:Nat}{ds xs:List D}:fzb k ds (owLV r sz xs)=owLV r sz xs:=by
  cases xs<;>rfl
@[go_sem]theorem one_ow (r sz:Nat)(xs:List D):one (owLV r sz xs)=true:=by cases xs<;>rfl
@[go_sem]theorem mapf_owAr (r sz ty j:Nat)(xs:List D)(a:Ar):owAr r sz ty xs a j=if xs=[]then a j else if j=r then some (sz,ty,xs)else a j:=by
  cases xs with
  |nil=>rfl
  |cons x xs=>rfl
def rtx (nm:List UInt8)(so of:Int)(fs gs:List D):Box:=⟨[.d (.st nm),.d (.int .i64 so),.d (.int .i64 of),owLV 104 2 fs,owLV 255 3 gs],177⟩
def zty:Box:=⟨[.d (.st []),.d (.int .i64 0),.d (.int .i64 0),.d (.imm (.slice none 0 0)),.d (.imm (.slice none 0 0))],177⟩
def stF (nm:List UInt8)(k o sp:Int)(FL FC:List Tree)(fty:Nat)(fs:List D):S:=⟨258,put 4 (.bp 4 0) (put 7 (.d (.sl 5 (qze FL) false)) (put 8 (.d (.sl 5 (qze FC) false)) (put 10 (.bp 10 0) (put 16 (.d (.int .i64 sp)) nix)))),put 4 zty (put 10 (rtx nm k o fs []) nix),owAr 104 2 fty fs nix⟩
def spK (k o:Int):Int:=if k=2\/k=3 then o else -1
theorem zkp {k o:Int}{fl:List Tree}{n x:Tree}(h:x.text≠[]):Lg.zv9 k o fl n x=if Lg.numb x.text fl<0\/Lg.numb x.text fl=spK k o then .error (n.pos,33)else .ok (Lg.numb x.text fl+1):=by
 unfold Lg.zv9 spK;rw[if_neg h]
 generalize Lg.numb x.text fl=q
 by_cases h1:k=2\/k=3
 · simp only[h1,true_and,if_true];by_cases h2:0<=q/\¬q=o
   ·rw[if_pos h2,if_neg (by omega)]
   ·rw[if_neg h2,if_pos (by omega)]
 · simp only[h1,false_and,not_false_eq_true,and_true,if_false];by_cases h2:0<=q
   ·rw[if_pos h2,if_neg (by omega)]
   ·rw[if_neg h2,if_pos (by omega)]
theorem subm_ow2 {x:Nat×TypeId×List D}{fs gs:List D}{fty gty:Nat}:subm (put 177 x (owAr 104 2 fty fs (owAr 255 3 gty gs nix))) (owAr 104 2 fty fs (owAr 255 3 gty gs nix)):=by
 intro k a ha;rw[qqr]
 ·exact ha
 ·rintro rfl;cases fs<;>cases gs<;>simp[owAr,put,nix]at ha
theorem subm_ow3 {a:Nat×TypeId×List D}{fs:List D}{fty:Nat}{g:Ar}:subm (put 255 a (owAr 104 2 fty fs g)) (owAr 104 2 fty fs (put 255 a nix)):=by
 cases fs with
 |nil=>exact qzd (qz7 ..) qza
 |cons x xs=>exact sP2 qza
def tyG (l:List D)(t:Nat):Nat:=match l with
 |[]=>189
 |_=>t
theorem qjs {a b c x x' y y':D}(h:D.le x x')(h':D.le y y'):D.le (.ag [a,b,c,x,y]) (.ag [a,b,c,x',y']):=.ag (.cons (.rfl _) (.cons (.rfl _) (.cons (.rfl _) (.cons h (.cons h' .nil)))))
theorem rest57 {Kr:LV->Bx->Ar1->Prop}{Kp:D->S->Prop}{nm:List UInt8}{k o:Int}{FL FC:List Tree}{fty:Nat}{fs:List (List UInt8×Int)}{s:S}(hs:Sub s (stF nm k o (spK k o) FL FC fty (fs.map fldD)))
  (hFl:FL.length<=4096)(hFc:FC.length<=4096)(hFcs:∀x∈FC,Lg.IsFc x)
  (hK:match Lg.zq2 k o FL FC with
    |.ok xs=>Kr (.tup [.d (qqk ⟨nm,k,o,fs,xs⟩),.d (.int .i64 0),.d (.int .i64 0)]) nix none
    |.error (p,c)=>∀u:Ty,Kr (.tup [.d (qqk u),.d (.int .i64 p),.d (.int .i64 c)]) nix none):
  cK ERo spR (seqR' (seqR' (seqR' (seqR' (seqR' (seqR' (seqR' (seqR' (seqR' (seqR' (seqR' (f57.body.getD .skip)))))))))))) s (endK ERo [.cell 4 177,.tmp 5,.tmp 6] [] none Kr) Kp:=by
 simp only[f57,seqR',Option.getD_some];simp only[go_sem]
 refine⟨by rw[hs.n];show 17<258;decide,?_⟩
 refine qzj (T:={q:List (Int×Int×Int)×Nat×Nat //qj6 k o FL FC q.1 q.2.1/\q.2.1<=FC.length/\q.1.length<=2*q.2.1/\tyo q.2.2=189})
  (fun q=>⟨258,put 4 (.bp 4 0) (put 7 (.d (.sl 5 (qze FL) false)) (put 8 (.d (.sl 5 (qze FC) false)) (put 10 (.bp 10 0) (put 16 (.d (.int .i64 (spK k o))) (put 17 (.d (.int .i64 q.1.2.1)) nix))))),put 4 zty (put 10 (rtx nm k o (fs.map fldD) (q.1.1.map leqD)) nix),owAr 104 2 fty (fs.map fldD) (owAr 255 3 q.1.2.2 (q.1.1.map leqD) nix)⟩) (fun q=>FC.length-q.1.2.1)
  ⟨([],0,189),zzc ..,by simp,by simp,rfl⟩
  (by
    obtain⟨h1,h2,h3,h4⟩:=hs
    refine⟨h1,qzd (h2 4 _ rfl) (qzd (h2 7 _ rfl) (qzd (h2 8 _ rfl) (qzd (h2 10 _ rfl) (qzd (h2 16 _ rfl) (sP1 qza))))),qzd (h3 4 _ rfl) (qzd (h3 10 _ rfl) qza),h4⟩) ?_
 clear hs;rintro⟨⟨xs,j,gty⟩,g1,g2,g3,g4⟩;have hrel:qj6 k o FL FC xs j:=g1;have hj:j<=FC.length:=g2;have hxl:xs.length<=2*j:=g3;have hgt:tyo gty=189:=g4;dsimp only;clear g1 g2 g3 g4;simp only[rtx,zty,go_sem]
 refine⟨fun h=>?_,fun h=>?_⟩
 · have hlt:j<FC.length:=by have:=lF h;omega
   obtain⟨n,hn⟩:∃n,n=FC[j]:=⟨_,rfl⟩
   have hnat:(qze FC)[j]?=some (qzr n):=by rw[treeDs_at' hlt,hn]
   obtain⟨ka,kb,hkids,hba,hbb⟩:=hFcs n (hn▸List.getElem_mem hlt)
   have e0:Lg.kid0 n=ka:=by unfold Lg.kid0;rw[hkids];rfl
   have e1:Lg.kid1 n=kb:=by unfold Lg.kid1;rw[hkids];rfl
   have hlen:n.kids.length=2:=by rw[hkids];rfl
   have hat0:(qze n.kids)[0]?=some (qzr ka):=by rw[hkids];simp[qze]
   have hat1:(qze n.kids)[1]?=some (qzr kb):=by rw[hkids];simp[qze]
   refine qzj (T:={q:Nat×Int×Int //zjv k o FL n q.1 q.2.1 q.2.2})
    (fun q=>⟨258,put 4 (.bp 4 0) (put 7 (.d (.sl 5 (qze FL) false)) (put 8 (.d (.sl 5 (qze FC) false)) (put 10 (.bp 10 0) (put 16 (.d (.int .i64 (spK k o))) (put 17 (.d (.int .i64 j)) (put 18 (.os 177 1 2) (put 19 (.d (.int .i64 q.1.1)) nix))))))),put 4 zty (put 10 (rtx nm k o (fs.map fldD) (xs.map leqD)) nix),put 177 (1,3,[.int .i64 q.1.2.1,.int .i64 q.1.2.2]) (owAr 104 2 fty (fs.map fldD) (owAr 255 3 gty (xs.map leqD) nix))⟩) (fun q=>2-q.1.1)
    ⟨(0,0,0),.inl ⟨rfl,rfl,rfl⟩⟩
    (qzh (sP6 (sP2 qza)) (sP2 qza) fun _ _ h=>h) ?_
   rintro⟨⟨i,v,w⟩,g1⟩;have hv:zjv k o FL n i v w:=g1;dsimp only;clear g1
   have hFj:Lg.factR k o FL FC[j]=Lg.sbnd (Lg.zv9 k o FL n ka) fun a=>Lg.sbnd (Lg.zv9 k o FL n kb) fun b=>.ok (Lg.cmpF id n.text a b ka.num kb.num):=by rw[<-hn,Lg.factR,e0,e1]
   have errK:Lg.factR k o FL FC[j]=.error (n.pos,33)->∀u:Ty,Kr (.tup [.d (qqk u),.d (.int .i64 n.pos),.d (.int .i64 33)]) nix none:=fun he=>by
    rw[qkw hrel hlt he]at hK;exact hK
   rcases hv with⟨rfl,rfl,rfl⟩|⟨rfl,h1,rfl⟩|⟨rfl,h1,h2⟩
   rotate_right
   · simp only[decide_false,rtx,zty,bne_self_eq_false,beq_self_eq_true,Bool.false_eq_true,Bool.true_eq_false,false_implies,true_implies,true_and,and_true,eq_self,go_sem];rw[e0]at h1;rw[e1]at h2;rw[h1,Lg.sbnd,h2,Lg.sbnd]at hFj;have hXl:=qwt id n.text v w ka.num kb.num;refine qzm [] [] (wT 0 (wT 1 (wT 5 (wT 8 (wT 11 (wT 12 (wT 19 (wT 20 (wR 2 (wT 3 (wR 4 (wR 6 (wR 9 (wR 13 (wT 14 (wR 15 (wR 16 (wT 17 (wR 18 (wR 21 (wT 22 (wR 23 (wR 24 (wT 25 (wR 26 (wB 7 (wD 10 27 (wT 28 wZ)) 10 (wD 7 27 (wT 28 wZ)))))))))))))))))))))))))))) ?_;have c0:(0<=(j:Int))=True:=eq_true (by omega);have c1:((j:Int)<FC.length)=True:=eq_true (by omega);simp only[c0,c1,lA,hnat,hlen,hat0,hat1,go_sem];refine⟨?_,?_⟩
     all_goals
      refine⟨n.text,v,w,ka.num,kb.num,rfl,?_⟩;rw[qwe hba hbb]
      generalize Lg.cmpF id n.text v w ka.num kb.num=Y at hFj hXl⊢
      simp only[go_sem]
      refine qzj (T:={q:List D×Nat×Nat //q.1=xs.map leqD++(Y.map leqD).take q.2.1/\q.2.1<=Y.length/\tyo q.2.2=189})
       (fun q=>⟨258,put 4 (.bp 4 0) (put 7 (.d (.sl 5 (qze FL) false)) (put 8 (.d (.sl 5 (qze FC) false)) (put 10 (.bp 10 0) (put 16 (.d (.int .i64 (spK k o))) (put 17 (.d (.int .i64 j)) (put 22 (.d (.sl 3 (Y.map leqD) false)) (put 23 (.d (.int .i64 q.1.2.1)) nix))))))),put 4 zty (put 10 (rtx nm k o (fs.map fldD) q.1.1) nix),owAr 104 2 fty (fs.map fldD) (owAr 255 3 q.1.2.2 q.1.1 nix)⟩) (fun q=>Y.length-q.1.2.1)
       ⟨(xs.map leqD,0,gty),by simp,by simp,hgt⟩
       (qzh (sP6 (sP2 qza)) (sP2 qza) subm_ow2) ?_
      rintro⟨⟨ys,m,gty'⟩,g1,g2,g3⟩;have hys:ys=xs.map leqD++(Y.map leqD).take m:=g1;have hm:m<=Y.length:=g2;have hgt':tyo gty'=189:=g3;dsimp only;clear g1 g2 g3
      have hyl:ys.length<=2*j+2:=by rw[hys,lC,lE,List.length_take];omega
      obtain⟨l,hpl⟩:∃l,l=ys:=⟨_,rfl⟩
      rcases ys with _|⟨y,ys⟩
      all_goals
       simp only[lB,lH]at hyl;simp only[rtx,zty,lE,go_sem]
       refine⟨fun h=>?_,fun h=>?_⟩
       · have hmt:m<Y.length:=by have:=lF h;omega
         have hmg:(Y.map leqD)[m]?=some (leqD Y[m]):=qvh hmt;refine qzm [] [] (wT 0 (wT 2 (wT 3 (wR 4 (wR 5 (wB 1 (wD 6 7 (wT 8 (wA 9 wZ))) 6 (wD 1 7 (wT 8 (wA 9 wZ))))))))) ?_;have d0:(0<=(m:Int))=True:=eq_true (by omega);have d1:((m:Int)<Y.length)=True:=eq_true (by omega);simp only[d0,d1,lA,lE,hmg,leqD,ite_self,go_sem]
         repeat' apply And.intro
         all_goals first
          |omega
          |exact hgt'
          |exact⟨⟨(l++[leqD Y[m]],m+1,tyG l gty'),by show l++_=_;rw[hpl.trans hys,List.append_assoc,List.take_add_one,hmg];rfl,hmt,by show tyo (tyG l gty')=189;rw[hpl];first|rfl|exact hgt'⟩,qzh (sP6 (sP2 qza)) (sP1 (qzd (by simp[put,rtx,owLV,hpl]) qza)) (by show subm _ (owAr 104 2 fty (fs.map fldD) (owAr 255 3 (tyG l gty') (l++[leqD Y[m]]) nix));rw[hpl];exact subm_ow3),by show Y.length-(m+1)<Y.length-m;omega⟩
       · have hme:m=Y.length:=by have:=lG h;omega
         refine⟨⟨by omega,by omega⟩,?_⟩
         have e:=hys;rw[hme,List.take_of_length_le (by simp),<-List.map_append]at e
         exact⟨⟨(xs++Y,j+1,gty'),qwa hrel hlt hFj,hlt,by show(xs++Y).length<=2*(j+1);rw[lC];omega,hgt'⟩,qzh (sP6 qza) (sP1 (qzd (by show _=some (rtx nm k o (fs.map fldD) ((xs++Y).map leqD));rw[<-e];rfl) qza)) (by show subm _ (owAr 104 2 fty (fs.map fldD) (owAr 255 3 gty' ((xs++Y).map leqD) nix));rw[<-e];exact fun _ _ h=>h),by show FC.length-(j+1)<FC.length-j;omega⟩
   all_goals
    simp only[decide_true,rtx,zty,bne_self_eq_false,beq_self_eq_true,Bool.false_eq_true,Bool.true_eq_false,false_implies,true_implies,true_and,and_true,eq_self,go_sem]
    refine⟨by omega,by omega,?_⟩
    rw[lA,hnat];simp only[hlen,hat0,hat1,go_sem]
    refine⟨fun ht=>?_,fun ht=>?_⟩
    · have ht:=eq_of_beq ht
      first
       |exact⟨⟨(1,0,0),.inr (.inl ⟨rfl,by rw[e0,Lg.zv9,if_pos ht],rfl⟩)⟩,qzh (sP6 (sP2 qza)) (sP2 qza) (fun _ _ h=>h),by show 2-1<2-0;decide⟩
       |exact⟨⟨(2,v,0),.inr (.inr ⟨rfl,h1,by rw[e1,Lg.zv9,if_pos ht]⟩)⟩,qzh (sP6 (sP2 qza)) (sP2 qza) (fun _ _ h=>h),by show 2-2<2-1;decide⟩
    · refine⟨_,FL,false,rfl,hFl,?_⟩;obtain⟨q,hfv,hr⟩:∃q:Int,True/\True:=⟨0,trivial,trivial⟩;clear hfv hr q
      first
       | (have ht':ka.text≠[]:=fun e=>by rw[e]at ht;simp at ht
          have hfv:=zkp (k:=k) (o:=o) (fl:=FL) (n:=n) ht';have hr:=qq2 ka.text FL
          generalize Lg.numb ka.text FL=q at hfv hr⊢)
       | (have ht':kb.text≠[]:=fun e=>by rw[e]at ht;simp at ht
          have hfv:=zkp (k:=k) (o:=o) (fl:=FL) (n:=n) ht';have hr:=qq2 kb.text FL
          generalize Lg.numb kb.text FL=q at hfv hr⊢)
      simp only[go_sem]
      refine⟨fun hq=>?_,fun hq=>⟨fun hq2=>?_,fun hq2=>?_⟩⟩
      rotate_right
      · rw[if_neg (by rintro(h|h);exact lG hq h;rw[h]at hq2;simp at hq2)]at hfv
        repeat' apply And.intro
        all_goals first
         |omega
         |exact⟨⟨(1,q+1,0),.inr (.inl ⟨rfl,by rw[e0];exact hfv,rfl⟩)⟩,qzh (sP6 (sP2 qza)) (sP2 qza) (fun _ _ h=>h),by show 2-1<2-0;decide⟩
         |exact⟨⟨(2,v,q+1),.inr (.inr ⟨rfl,h1,by rw[e1];exact hfv⟩)⟩,qzh (sP6 (sP2 qza)) (sP2 qza) (fun _ _ h=>h),by show 2-2<2-1;decide⟩
      all_goals
       have hc:q<0\/q=spK k o:=by first|exact .inl (lF hq)|exact .inr (eq_of_beq hq2)
       rw[if_pos hc]at hfv
       have hK':=errK (by first|(rw[hFj,hfv];rfl)|(rw[e0]at h1;rw[hFj,h1,Lg.sbnd,hfv];rfl))
       rcases fs with _|⟨z,fs⟩<;>rcases xs with _|⟨y,xs⟩
       all_goals
        refine qzm [10] [] (wT 1 (wT 2 (wR 0 (wR 3 (wT 4 (wR 5 (wA 6 (wT 7 (wT 8 wZ))))))))) ?_;simp only[List.map_nil,List.map_cons,go_sem]
        refine⟨by omega,by omega,?_⟩
        rw[lA,hnat];simp only[go_sem]
        first
         |exact⟨_,.cons (qjs (.nil _ _) (.nil _ _)) (.cons (.rfl _) (qzb (.rfl _))),hK' ⟨nm,k,o,[],[]⟩⟩
         |exact⟨_,.cons (qjs (.nil _ _) (.rfl _)) (.cons (.rfl _) (qzb (.rfl _))),hK' ⟨nm,k,o,[],y::xs⟩⟩
         |exact⟨_,.cons (qjs (.rfl _) (.nil _ _)) (.cons (.rfl _) (qzb (.rfl _))),hK' ⟨nm,k,o,z::fs,[]⟩⟩
         |exact⟨_,.cons (.rfl _) (.cons (.rfl _) (qzb (.rfl _))),hK' ⟨nm,k,o,z::fs,y::xs⟩⟩
 · have hje:j=FC.length:=by have:=lG h;omega
   rw[qkx hrel hje]at hK
   rcases fs with _|⟨z,fs⟩<;>rcases xs with _|⟨y,xs⟩
   all_goals
    simp only[rtx,zty,List.map_nil,List.map_cons,go_sem]
    first
     |exact⟨_,.cons (qjs (.nil _ _) (.nil _ _)) (.cons (.rfl _) (qzb (.rfl _))),hK⟩
     |exact⟨_,.cons (qjs (.nil _ _) (.rfl _)) (.cons (.rfl _) (qzb (.rfl _))),hK⟩
     |exact⟨_,.cons (qjs (.rfl _) (.nil _ _)) (.cons (.rfl _) (qzb (.rfl _))),hK⟩
     |exact⟨_,.cons (.rfl _) (.cons (.rfl _) (qzb (.rfl _))),hK⟩
open Lg (Tok Tree Ty Par Sg)
def isOk {α ε:Type}:Except ε α->Bool
 |.ok _=>true
 |.error _=>false
def rsmodeS:Spec:=fun ys bx Kr Kp=>∃n td T,ys=[.d (qzr n),.d td]/\tabD td T/\T.length<=4096/\Lg.IsMd n/\
 Kr (.tup [.d (parD (Lg.parOf T n)),.d (.bool (isOk (Lg.modeR T n)))]) nix none
theorem rsmode_OK:OK Tryz.prog 115 rsmodeS:=by
 refine fn_OK' qzu (E:=EV) (sp:=spL [(112,rfindT)]) qzt qzl (OKs.ok ⟨rfindT_OK,trivial⟩) func115 rfl ntmps115 results115 call115 [] none ?_;rintro ys bx Kr Kp ⟨n,td,T,rfl,htd,hl,hmd,hK⟩
 refine⟨[],rfl,trivial,by simp,?_⟩
 have hx:=Lg.modeIx_of (s:=n.text)
 have ne:∀{x y:List UInt8},x≠y->(x==y)=false:=fun h=>by simpa using h
 rcases hmd with⟨h1,h2⟩|⟨h1,k,h2⟩
 · have e:Lg.modeR T n=.ok ⟨[],Lg.qkr n.text,0⟩:=by rw[Lg.modeR,h2];rfl
   rw[Lg.parOf,e]at hK
   rcases h1 with h1|h1
   · have q1:(n.text==[105,110,116])=false:=by rw[h1];rfl
     have q2:(n.text==[111,119,110])=false:=by rw[h1];rfl
     have q3:(n.text==[38])=false:=by rw[h1];rfl
     have q4:(n.text==[38,109,117,116])=false:=by rw[h1];rfl
     rw[hx.1 h1]at hK;simp only[q1,q2,q3,q4,go_sem]
     exact⟨fun h=>absurd h (by decide),fun _=>⟨_,.cons (.rfl _) (qzb (.rfl _)),hK⟩⟩
   · have q1:(n.text==[105,110,116])=true:=by rw[h1];rfl
     have q2:(n.text==[111,119,110])=false:=by rw[h1];rfl
     have q3:(n.text==[38])=false:=by rw[h1];rfl
     have q4:(n.text==[38,109,117,116])=false:=by rw[h1];rfl
     rw[hx.2.1 h1]at hK;simp only[q1,q2,q3,q4,go_sem]
     exact⟨fun h=>absurd h (by decide),fun _=>⟨_,.cons (.rfl _) (qzb (.rfl _)),hK⟩⟩
 · have hg0:(qze n.kids)[0]?=some (qzr k):=by rw[h2];simp[qze]
   have hkl:n.kids.length=1:=by rw[h2];rfl
   have e0:Lg.kid0 n=k:=by unfold Lg.kid0;rw[h2];rfl
   have e:Lg.modeR T n=if Lg.qkv T k.text<0 then .error 31 else .ok ⟨[],Lg.qkr n.text,Lg.qkv T k.text⟩:=by rw[Lg.modeR,e0,h2];rfl
   rw[Lg.parOf,e]at hK
   rcases h1 with h1|h1|h1
   · rw[hx.2.2.1 h1]at hK
     have q1:(n.text==[105,110,116])=false:=by rw[h1];rfl
     have q2:(n.text==[111,119,110])=true:=by rw[h1];rfl
     have q3:(n.text==[38])=false:=by rw[h1];rfl
     have q4:(n.text==[38,109,117,116])=false:=by rw[h1];rfl
     simp only[q1,q2,q3,q4,hg0,hkl,go_sem]
     refine⟨fun _=>?_,fun h=>absurd h (by decide)⟩
     refine⟨_,T,td,rfl,htd,hl,?_⟩;simp only[go_sem]
     refine⟨fun h=>?_,fun h=>?_⟩
     ·rw[if_pos (lF h)]at hK;exact⟨_,.cons (.rfl _) (qzb (.rfl _)),hK⟩
     ·rw[if_neg (lG h)]at hK;exact⟨_,.cons (.rfl _) (qzb (.rfl _)),hK⟩
   · rw[hx.2.2.2.1 h1]at hK
     have q1:(n.text==[105,110,116])=false:=by rw[h1];rfl
     have q2:(n.text==[111,119,110])=false:=by rw[h1];rfl
     have q3:(n.text==[38])=true:=by rw[h1];rfl
     have q4:(n.text==[38,109,117,116])=false:=by rw[h1];rfl
     simp only[q1,q2,q3,q4,hg0,hkl,go_sem]
     refine⟨fun _=>?_,fun h=>absurd h (by decide)⟩
     refine⟨_,T,td,rfl,htd,hl,?_⟩;simp only[go_sem]
     refine⟨fun h=>?_,fun h=>?_⟩
     ·rw[if_pos (lF h)]at hK;exact⟨_,.cons (.rfl _) (qzb (.rfl _)),hK⟩
     ·rw[if_neg (lG h)]at hK;exact⟨_,.cons (.rfl _) (qzb (.rfl _)),hK⟩
   · rw[hx.2.2.2.2 h1]at hK
     have q1:(n.text==[105,110,116])=false:=by rw[h1];rfl
     have q2:(n.text==[111,119,110])=false:=by rw[h1];rfl
     have q3:(n.text==[38])=false:=by rw[h1];rfl
     have q4:(n.text==[38,109,117,116])=true:=by rw[h1];rfl
     simp only[q1,q2,q3,q4,hg0,hkl,go_sem]
     refine⟨fun _=>?_,fun h=>absurd h (by decide)⟩
     refine⟨_,T,td,rfl,htd,hl,?_⟩;simp only[go_sem]
     refine⟨fun h=>?_,fun h=>?_⟩
     ·rw[if_pos (lF h)]at hK;exact⟨_,.cons (.rfl _) (qzb (.rfl _)),hK⟩
     ·rw[if_neg (lG h)]at hK;exact⟨_,.cons (.rfl _) (qzb (.rfl _)),hK⟩
def rsgx (nm:List UInt8)(ps:List D)(m k:Int):Box:=⟨[.d (.st nm),owLV 121 3 ps,.d (.st []),.d (.int .i64 m),.d (.int .i64 k)],85⟩
def ndx (n:Tree):Box:=⟨[.d (.int .i64 n.kind),.d (.st n.text),.d (.int .i64 n.num),.d (.int .i64 n.pos),.d (.sl 5 (qze n.kids) false)],100⟩
def zsx:Box:=⟨[.d (.st []),.d (.imm (.slice none 0 0)),.d (.st []),.d (.int .i64 0),.d (.int .i64 0)],85⟩
def tyP (l:List Par)(t:Nat):Nat:=match l with
 |[]=>83
 |_=>t
theorem hasP_any (f:Par->Bool)(ps:List Par):Lg.hasP f ps=ps.any f:=Lg.idxF_any f ps 0
def nmRel (PS:List Tree)(ps:List Par)(i:Nat):Prop:=ps.map Par.name=(PS.take i).map Tree.text
theorem nmRel_any {PS:List Tree}{ps:List Par}{i:Nat}(h:nmRel PS ps i)(s:List UInt8):Lg.hasP (Lg.sameN ⟨s,0,0⟩) ps=Lg.namedT (PS.take i) s:=by
 rw[hasP_any]
 have e1:ps.any (Lg.sameN ⟨s,0,0⟩)=(ps.map Par.name).any (fun x=>x==s):=by rw[List.any_map];rfl
 have e2:Lg.namedT (PS.take i) s=((PS.take i).map Tree.text).any (fun x=>x==s):=by rw[List.any_map];rfl
 rw[e1,e2,h]
theorem rsig_OK:OK Tryz.prog 58 sigS:=by
 refine fn_OK' qzu (E:=EV) (sp:=spL [(115,rsmodeS)]) qzt qzl (OKs.ok ⟨rsmode_OK,trivial⟩) func58 rfl ntmps58 results58 call58 [] none ?_;rintro ys bx Kr Kp ⟨n,td,T,rfl,htd,hTl,hnl,⟨PS,r,b,hk,hPS,hr⟩,hK⟩
 refine⟨[],rfl,trivial,by simp,?_⟩
 have hkl:n.kids.length=PS.length+2:=by rw[hk];simp
 have hl2:n.kids.length-2=PS.length:=by omega
 have htk:n.kids.take PS.length=PS:=by rw[hk];simp
 have hrg:n.kids[PS.length]?=some r:=by rw[hk];simp
 rw[Lg.sigR,hl2,htk,hrg,Option.getD_some]at hK
 have hsub:(n.kids.length:Int)-2=PS.length:=by omega
 simp only[hsub,go_sem]
 refine⟨⟨by omega,by omega⟩,fun h8=>?_,fun h8=>?_⟩
 ·rw[if_pos (by have:=lF h8;omega)]at hK;refine qzm [2] [] (wT 1 (wR 2 (wD 0 3 (wT 4 (wT 5 wZ))))) ?_;simp only[go_sem];exact⟨_,.cons (le_nil5 _ _) (.cons (.rfl _) (qzb (.rfl _))),hK⟩
 have h8':PS.length<=8:=by have:=lG h8;omega
 rw[if_neg (by omega)]at hK
 refine qzj (T:={q:List Par×Nat×Nat //(zjx T PS q.1 q.2.1/\nmRel PS q.1 q.2.1)/\q.2.1<=PS.length/\q.1.length=q.2.1/\tyo q.2.2=83})
  (fun q=>⟨145,put 1 (.d td) (put 2 (.bp 2 0) (put 4 (.bp 4 0) (put 7 (.bp 7 0) (put 8 (.d (.int .i64 PS.length)) (put 9 (.d (.int .i64 q.1.2.1)) nix))))),put 2 (ndx n) (put 4 zsx (put 7 (rsgx n.text (q.1.1.map parD) 0 0) nix)),owAr 121 3 q.1.2.2 (q.1.1.map parD) nix⟩) (fun q=>PS.length-q.1.2.1)
  ⟨([],0,83),⟨by rw[zjx,List.drop_zero],rfl⟩,by simp,rfl,rfl⟩ (qzh (sP6 qza) (sP3 qza) qza) ?_
 rintro⟨⟨ps,i,ty⟩,g1,g2,g3,g4⟩;obtain⟨hrel,hnm⟩:zjx T PS ps i/\nmRel PS ps i:=g1;have hi:i<=PS.length:=g2;have hpi:ps.length=i:=g3;have hty:tyo ty=83:=g4;dsimp only;clear g2 g3 g4;simp only[rsgx,ndx,zsx,go_sem]
 refine⟨fun h=>?_,fun h=>?_⟩
 · have hlt:i<PS.length:=by have:=lF h;omega
   have hle:i<n.kids.length:=by omega
   have hkat:(qze n.kids)[i]?=some (qzr PS[i]):=by
    rw[treeDs_at' hle]
    congr 2
    have:n.kids[i]?=PS[i]?:=by rw[hk,List.getElem?_append_left hlt]
    rw[lD hle,lD hlt]at this;exact Option.some.inj this
   have hnx:∀a b:Int,nmRel PS (ps++[⟨PS[i].text,a,b⟩]) (i+1):=fun a b=>by
    unfold nmRel at hnm⊢;rw[List.map_append,hnm,List.take_add_one,lD hlt,List.map_append];rfl
   rw[zjx,List.drop_eq_getElem_cons hlt,Lg.qji]at hrel;obtain⟨m,hkm,hmd,hmt⟩:=hPS _ (List.getElem_mem hlt)
   refine⟨by omega,by omega,?_⟩
   rw[lA,hkat];obtain⟨k,hkk⟩:∃k,k=PS[i]:=⟨_,rfl⟩;rw[<-hkk]at hrel hkm hnx⊢
   have e0:Lg.kid0 k=m:=by unfold Lg.kid0;rw[hkm];rfl
   have hg0:(qze k.kids)[0]?=some (qzr m):=by rw[hkm];simp[qze]
   have hkl1:k.kids.length=1:=by rw[hkm];rfl
   rw[Lg.qk3,e0,nmRel_any hnm]at hrel;simp only[go_sem]
   refine qzj (T:={j:Nat //j<=i/\Lg.namedT (PS.take j) k.text=false})
    (fun j=>⟨145,put 1 (.d td) (put 2 (.bp 2 0) (put 4 (.bp 4 0) (put 7 (.bp 7 0) (put 8 (.d (.int .i64 PS.length)) (put 9 (.d (.int .i64 i)) (put 10 (.bp 10 0) (put 11 (.d (.int .i64 j.1)) nix))))))),put 2 (ndx n) (put 4 zsx (put 7 (rsgx n.text (ps.map parD) 0 0) (put 10 (ndx k) nix))),owAr 121 3 ty (ps.map parD) nix⟩) (fun j=>i-j.1)
    ⟨0,by omega,rfl⟩ (qzh (sP6 (sP2 qza)) (sP4 qza) fun _ _ h=>h) ?_
   rintro⟨j,g1,g2⟩;have hj:j<=i:=g1;have hjn:Lg.namedT (PS.take j) k.text=false:=g2;dsimp only;clear g1 g2;simp only[rsgx,ndx,zsx,go_sem]
   refine⟨fun h=>?_,fun h=>?_⟩
   · have hjt:j<i:=by have:=lF h;omega
     have hjl:j<PS.length:=by omega
     have hkj:(qze n.kids)[j]?=some (qzr PS[j]):=by
      rw[qwi,hk,List.getElem?_append_left hjl,lD hjl];rfl
     have hnext:Lg.namedT (PS.take (j+1)) k.text=(PS[j].text==k.text):=by
      unfold Lg.namedT at hjn⊢;rw[List.take_add_one,lD hjl,List.any_append,hjn];simp
     refine qz5 ?_;simp only[go_sem]
     refine⟨by omega,by omega,?_⟩
     rw[lA,hkj];simp only[go_sem]
     refine⟨fun hx=>?_,fun hx=>?_⟩
     · rw[if_pos (by
        unfold Lg.namedT;rw[List.any_eq_true]
        exact⟨PS[j],List.mem_take_iff_getElem.2 ⟨j,by omega,rfl⟩,hx⟩),Lg.sbnd]at hrel
       rw[hrel]at hK;refine qzm [10] [] (wT 1 (wR 2 (wD 0 3 (wT 4 (wT 5 wZ))))) ?_;simp only[go_sem];exact⟨_,.cons (le_nil5 _ _) (.cons (.rfl _) (qzb (.rfl _))),hK⟩
     · rw[hx]at hnext
       refine⟨⟨by omega,by omega⟩,?_⟩
       exact⟨⟨j+1,hjt,hnext⟩,qzh (sP6 (sP2 qza)) (sP4 qza) (fun _ _ h=>h),by show i-(j+1)<i-j;omega⟩
   · have hji:j=i:=by have:=lG h;omega
     subst hji;rw[if_neg (by rw[hjn];decide)]at hrel;simp only[hg0,hkl1,go_sem]
     refine⟨m,td,T,by rw[qzy],htd,hTl,hmd,?_⟩
     cases hmr:Lg.modeR T m with
     |error e=>
      have he:=Lg.modeR_ne hmr;subst he;rw[hmr]at hrel;rw[Lg.parOf,hmr];unfold Lg.noPar isOk;rw[Lg.sbnd]at hrel;rw[hrel]at hK;simp only[go_sem];refine qzm [10] [] (wT 1 (wR 2 (wR 3 (wT 4 (wR 5 (wD 0 6 (wT 7 (wT 8 wZ)))))))) ?_;simp only[hg0,hkl1,go_sem];exact⟨_,.cons (le_nil5 _ _) (.cons (.rfl _) (qzb (.rfl _))),hK⟩
     |ok p=>
      rw[hmr]at hrel;rw[Lg.parOf,hmr];unfold isOk;obtain⟨_,_,hpm,hpn⟩:=Lg.modeR_ok hmd hmr;have hpm:=hpm hmt;dsimp only at hrel;rw[hasP_any]at hrel;simp only[go_sem]
      refine qzj (T:={m':Nat //m'<=j/\(Lg.sharedR T p&&(ps.take m').any (Lg.sameT p))=false})
       (fun m'=>⟨145,put 1 (.d td) (put 2 (.bp 2 0) (put 4 (.bp 4 0) (put 7 (.bp 7 0) (put 8 (.d (.int .i64 PS.length)) (put 9 (.d (.int .i64 j)) (put 10 (.bp 10 0) (put 12 (.bp 12 0) (put 14 (.d (.int .i64 m'.1)) nix)))))))),put 2 (ndx n) (put 4 zsx (put 7 (rsgx n.text (ps.map parD) 0 0) (put 10 (ndx k) (put 12 ⟨[.d (.st p.name),.d (.int .i64 p.mode),.d (.int .i64 p.typ)],83⟩ nix)))),owAr 121 3 ty (ps.map parD) nix⟩) (fun m'=>j-m'.1)
       ⟨0,by omega,by simp⟩ (qzh (sP6 (sP3 qza)) (sP5 qza) fun _ _ h=>h) ?_
      rintro⟨m',g1,g2⟩;have hmj:m'<=j:=g1;have hmn:(Lg.sharedR T p&&(ps.take m').any (Lg.sameT p))=false:=g2;dsimp only;clear g1 g2;obtain⟨l,hpl⟩:∃l,l=ps:=⟨_,rfl⟩
      rcases ps with _|⟨z,ps⟩
      all_goals
       simp only[rsgx,ndx,zsx,List.map_nil,List.map_cons,go_sem]
       refine⟨fun h=>?_,fun h=>?_⟩
      ·have:=lF h;simp only[lH]at hpi;omega
      rotate_left
      · have hmt:m'<j:=by have:=lF h;omega
        have hpi2:=hpi;simp only[lB]at hpi2;obtain⟨x,hx⟩:∃x,(z::ps)[m']?=some x:=⟨_,lD (by simp only[lB];omega)⟩
        have hpg:(parD z::ps.map parD)[m']?=some (parD x):=by
         show((z::ps).map parD)[m']?=_
         rw[List.getElem?_map,hx];rfl
        have hany:((z::ps).take (m'+1)).any (Lg.sameT p)=(((z::ps).take m').any (Lg.sameT p)||Lg.sameT p x):=by
         rw[List.take_add_one,hx,List.any_append];simp
        have hcont:(Lg.sharedR T p&&Lg.sameT p x)=false->(Lg.sharedR T p&&((z::ps).take (m'+1)).any (Lg.sameT p))=false:=fun e=>by
         rw[hany,Bool.and_or_distrib_left,hmn,e];rfl
        have herr:Lg.sharedR T p=true->Lg.sameT p x=true->Kr (.tup [.d zsD,.d (.int .i64 m.pos),.d (.int .i64 34)]) nix none:=fun e1 e2=>by
         rw[if_pos (by rw[e1,Bool.true_and,List.any_eq_true];exact⟨x,List.mem_of_getElem? hx,e2⟩),Lg.sbnd]at hrel;rw[hrel]at hK;exact hK
        refine⟨by omega,by omega,by omega,?_⟩
        rw[lA,hpg];have hst:Lg.sameT p x=(decide (1<x.mode)&&x.typ==p.typ):=rfl;by_cases h1:1<p.mode
        · obtain⟨h2,h3⟩:=hpm.2.2 (by omega)
          obtain⟨f,rfl⟩:∃f,td=.sl 5 (T.map qqk) f:=by
           rcases htd with h|⟨_,h⟩
           ·exact h
           ·subst h;simp at h3;omega
          obtain⟨t,ht⟩:∃t,T[p.typ.toNat]?=some t:=⟨_,lD (by omega)⟩
          have htg:(T.map qqk)[p.typ.toNat]?=some (qqk t):=by rw[List.getElem?_map,ht];rfl
          have hta:Lg.tyAt T p.typ=t:=by rw[Lg.tyAt,ht];rfl
          have hsr:Lg.sharedR T p= !(t.sort==0):=by rw[Lg.sharedR,hta,decide_eq_true h1,Bool.true_and]
          simp only[htg,lE,go_sem]
          have e3:(p.typ==x.typ)=(x.typ==p.typ):=by rw[Bool.eq_iff_iff,beq_iff_eq,beq_iff_eq];exact eq_comm
          refine⟨fun d1=>⟨fun d2=>⟨fun d3=>⟨h2,h3,fun d4=>?_,fun d4=>?_⟩,fun d3=>?_⟩,fun d2=>?_⟩,fun d1=>absurd h1 (lG d1)⟩
          ·have hK':=herr (by rw[hsr];exact d4) (by rw[hst,d2,<-e3,d3];rfl);refine qzm [10] [] (wT 1 (wR 2 (wR 3 (wT 4 (wR 5 (wD 0 6 (wT 7 (wT 8 wZ)))))))) ?_;simp only[hg0,hkl1,go_sem];exact⟨_,.cons (le_nil5 _ _) (.cons (.rfl _) (qzb (.rfl _))),hK'⟩
          ·exact⟨⟨by omega,by omega⟩,⟨m'+1,hmt,hcont (by rw[hsr];show((t.sort != 0)&&_)=false;rw[d4];rfl)⟩,qzh (sP6 (sP3 qza)) (sP2 (qzd (by simp[put,rsgx,owLV]) (sP2 qza))) (fun _ _ h=>h),by show j-(m'+1)<j-m';omega⟩
          ·exact⟨⟨by omega,by omega⟩,⟨m'+1,hmt,hcont (by rw[hst,<-e3,d3,Bool.and_false,Bool.and_false])⟩,qzh (sP6 (sP3 qza)) (sP2 (qzd (by simp[put,rsgx,owLV]) (sP2 qza))) (fun _ _ h=>h),by show j-(m'+1)<j-m';omega⟩
          ·exact⟨⟨by omega,by omega⟩,⟨m'+1,hmt,hcont (by rw[hst,d2,Bool.false_and,Bool.and_false])⟩,qzh (sP6 (sP3 qza)) (sP2 (qzd (by simp[put,rsgx,owLV]) (sP2 qza))) (fun _ _ h=>h),by show j-(m'+1)<j-m';omega⟩
        · simp only[go_sem]
          refine⟨fun d1=>absurd (lF d1) h1,fun _=>?_⟩
          exact⟨⟨by omega,by omega⟩,⟨m'+1,hmt,hcont (by rw[Lg.sharedR,decide_eq_false h1,Bool.false_and,Bool.false_and])⟩,qzh (sP6 (sP3 qza)) (sP2 (qzd (by simp[put,rsgx,owLV]) (sP2 qza))) (fun _ _ h=>h),by show j-(m'+1)<j-m';omega⟩
      all_goals
       have hme:m'=j:=by have:=lG h;omega
       rw[hme,<-hpi,List.take_length]at hmn;rw[if_neg (by rw[hmn];decide),Lg.sbnd]at hrel;have hpi2:=hpi;simp only[lB,lH]at hpi2
       repeat' apply And.intro
       all_goals first
        |omega
        |exact hty
        |exact⟨⟨(l++[⟨k.text,p.mode,p.typ⟩],j+1,tyP l ty),⟨by rw[hpl];exact hrel,by rw[hpl];exact hnx _ _⟩,hlt,by rw[hpl,lC,hpi];rfl,by show tyo (tyP l ty)=83;rw[hpl];first|rfl|exact hty⟩,qzh (sP6 qza) (sP2 (qzd (by simp[put,rsgx,owLV,parD,hpl]) qza)) (qqf (fun _=>by simp[put,parD,hpl,tyP]) qza),by show PS.length-(j+1)<PS.length-j;omega⟩
 · have hie:i=PS.length:=by have:=lG h;omega
   rw[zjx,hie,List.drop_length,Lg.qji]at hrel;rw[hrel,Lg.sbnd]at hK;have c1:((PS.length:Int)<n.kids.length)=True:=eq_true (by omega);have c0:(0<=(PS.length:Int))=True:=eq_true (by omega)
   have hrg':(qze n.kids)[PS.length]?=some (qzr r):=by rw[qwi,hrg];rfl
   simp only[c0,c1,lA,hrg',go_sem]
   refine⟨r,td,T,by rw[qzy],htd,hTl,hr,?_⟩
   cases hmr:Lg.modeR T r with
   |error e=>
    have he:=Lg.modeR_ne hmr;subst he;rw[hmr]at hK;rw[Lg.parOf,hmr];unfold Lg.noPar isOk;simp only[go_sem];refine qzm [2] [] (wT 1 (wT 3 (wR 2 (wR 4 (wT 5 (wR 6 (wD 0 7 (wT 8 (wT 9 wZ))))))))) ?_;simp only[c0,c1,lA,hrg',go_sem];exact⟨_,.cons (le_nil5 _ _) (.cons (.rfl _) (qzb (.rfl _))),hK⟩
   |ok p=>
    rw[hmr]at hK;rw[Lg.parOf,hmr];unfold isOk
    rcases ps with _|⟨z,ps⟩
    all_goals
     simp only[List.map_nil,List.map_cons,go_sem]
     first
      |exact⟨_,.cons (le_nil5 _ _) (.cons (.rfl _) (qzb (.rfl _))),hK⟩
      |exact⟨_,.cons (.rfl _) (.cons (.rfl _) (qzb (.rfl _))),hK⟩
theorem rsigs_OK:OK Tryz.prog 25 sigsS:=by
 refine fn_OK' qzu (E:=EV) (sp:=spL [(58,.b sigS.up)]) qzt qzl (OKs.ok ⟨rsig_OK.up,trivial⟩) func25 rfl ntmps25 results25 call25 [] none ?_;rintro ys bx Kr Kp ⟨n,td,T,rfl,htd,hTl,hsz,hfn,hK⟩
 refine⟨[],rfl,trivial,by simp,?_⟩
 have hnl:n.kids.length<=4096:=qj4 hsz;simp only[go_sem]
 refine qzj (T:={q:List Sg×Nat //Lg.zvc T n.kids []=Lg.zvc T (n.kids.drop q.2) q.1/\q.2<=n.kids.length/\q.1.length<=q.2})
  (fun q=>⟨46,put 1 (.d td) (put 2 (.bp 2 0) (put 7 (owLV 44 5 (q.1.1.map sigD)) (put 8 (.d (.int .i64 q.1.2)) nix))),put 2 (ndx n) nix,owAr 44 5 85 (q.1.1.map sigD) nix⟩) (fun q=>n.kids.length-q.1.2)
  ⟨([],0),rfl,by simp,by simp⟩ (qzh (sP4 qza) (sP1 qza) qza) ?_
 rintro⟨⟨gs,i⟩,g1,g2,g3⟩;have hrel:Lg.zvc T n.kids []=Lg.zvc T (n.kids.drop i) gs:=g1;have hi:i<=n.kids.length:=g2;have hgl:gs.length<=i:=g3;dsimp only;clear g1 g2 g3;obtain⟨l,hpl⟩:∃l,l=gs:=⟨_,rfl⟩
 rcases gs with _|⟨z,gs⟩
 all_goals
  have hgl2:=hgl;simp only[lB,lH]at hgl2;simp only[List.map_nil,List.map_cons,ndx,go_sem]
  refine⟨fun h=>?_,fun h=>?_⟩
  · have hlt:i<n.kids.length:=by have:=lF h;omega
    refine⟨by omega,by omega,?_⟩
    have hkat:(qze n.kids)[i]?=some (qzr n.kids[i]):=treeDs_at' hlt;rw[lA,hkat];rw[List.drop_eq_getElem_cons hlt,Lg.zvc]at hrel;have hk4:=qj4 (kid_le hsz hlt);have hfk:=hfn _ (List.getElem_mem hlt)
    generalize n.kids[i]=k at hrel hk4 hfk hkat⊢
    have c0:(0<=(i:Int))=True:=eq_true (by omega);have c1:((i:Int)<n.kids.length)=True:=eq_true (by omega);simp only[c0,c1,lA,hkat,go_sem]
    refine⟨fun h6=>?_,fun h6=>?_⟩
    · have h6:¬k.kind=6:=by simpa using h6
      rw[if_neg h6]at hrel
      refine⟨⟨by omega,by omega⟩,?_⟩
      exact⟨⟨(l,i+1),by rw[hpl];exact hrel,hlt,by show l.length<=i+1;rw[hpl];exact Nat.le_succ_of_le hgl⟩,qzh (sP2 (qzd (by simp[put,owLV,hpl]) (sP1 qza))) (sP1 qza) (qqf (fun hne=>by first|(simp[put,hpl];done)|exact absurd (by simp[hpl]) hne) qza),by show n.kids.length-(i+1)<n.kids.length-i;omega⟩
    · have h6:k.kind=6:=by simpa using h6
      rw[if_pos h6]at hrel
      refine⟨k,td,T,by rw[qzy],htd,hTl,hk4,hfk h6,?_⟩
      cases hs:Lg.sigR T k with
      |error e=>
       obtain⟨a,c⟩:=e;rw[hs,Lg.sbnd]at hrel;rw[hrel]at hK;simp only[zsD,go_sem]
       refine⟨fun _=>?_,fun hc=>absurd (by simpa using hc) (Lg.sigR_ne hs)⟩
       exact⟨_,.cons (.nil _ _) (.cons (.rfl _) (qzb (.rfl _))),hK⟩
      |ok g=>
       rw[hs,Lg.sbnd]at hrel;simp only[sigD,go_sem]
       repeat' apply And.intro
       all_goals first
        |omega
        |exact⟨⟨(l++[g],i+1),by rw[hpl];exact hrel,hlt,by show(l++[g]).length<=i+1;rw[hpl,lC];simp only[lB,lH];omega⟩,qzh (sP2 (qzd (by simp[put,owLV,hpl]) (sP1 qza))) (sP1 qza) (qqf (fun _=>by simp[put,hpl,sigD]) qza),by show n.kids.length-(i+1)<n.kids.length-i;omega⟩
  · have hie:i=n.kids.length:=by have:=lG h;omega
    rw[hie,List.drop_length,Lg.zvc]at hrel;rw[hrel]at hK
    first
     |exact⟨_,.cons (.nil _ _) (.cons (.rfl _) (qzb (.rfl _))),hK⟩
     |exact⟨_,.cons (.rfl _) (.cons (.rfl _) (qzb (.rfl _))),hK⟩
def roneT:Spec:=fun ys bx Kr Kp=>∃t n x0,tabD x0 t/\ys=[.d x0,.d (qzr n)]/\t.length<=4096/\n.kids.length<=4096/\Lg.IsTy n/\0<=Lg.qxf (Lg.kid0 n).text/\
 match Lg.typR t n with
 |.ok x=>Kr (.tup [.d (qqk x),.d (.int .i64 0),.d (.int .i64 0)]) nix none
 |.error (p,c)=>∀u:Ty,Kr (.tup [.d (qqk u),.d (.int .i64 p),.d (.int .i64 c)]) nix none
def tyF (l:List (List UInt8×Int))(t:Nat):Nat:=match l with
 |[]=>193
 |_=>t
theorem roneT_OK:OK Tryz.prog 57 roneT:=by
 refine fn_OK' qzu (E:=ERo) (sp:=spL [(111,rkidsS),(112,rfindT),(113,rnumS),(114,factsS)]) qzt qzl (OKs.ok ⟨rkids_OK,⟨rfindT_OK,⟨rnum_OK,⟨rfacts_OK,trivial⟩⟩⟩⟩) func57 rfl ntmps57 results57 call57 [] none ?_;rintro ys bx Kr Kp ⟨t,n,x0,htab,rfl,ht,hn,⟨⟨s0,r0,hk0,hso⟩,hfc⟩,hsx,hK⟩
 refine⟨[],rfl,trivial,by simp,?_⟩
 generalize hr:Code.seq (Code.seq (Code.region 47 _ _) _) _=rest
 simp only[go_sem]
 refine⟨n,3,by rw[qzy],hn,?_⟩
 simp only[go_sem]
 refine⟨n,4,by rw[qzy],hn,?_⟩
 simp only[go_sem];obtain⟨FL,hFL⟩:∃FL,FL=n.kids.filter Lg.zza:=⟨_,rfl⟩;obtain⟨FC,hFC⟩:∃FC,FC=n.kids.filter Lg.isFct:=⟨_,rfl⟩
 have hFl:FL.length<=4096:=by rw[hFL];exact Nat.le_trans (List.length_filter_le ..) hn
 have hFc:FC.length<=4096:=by rw[hFC];exact Nat.le_trans (List.length_filter_le ..) hn
 have hFcs:∀k∈FC,Lg.IsFc k:=fun k hk=>by
  rw[hFC,List.mem_filter]at hk;exact hfc k hk.1 (by have:=hk.2;unfold Lg.isFct at this;exact eq_of_beq this)
 have e0:Lg.kid0 n=s0:=by unfold Lg.kid0;rw[hk0];rfl
 rw[e0]at hsx
 have hat0:(qze n.kids)[0]?=some (qzr s0):=by rw[hk0];simp[qze]
 have hpos:(0:Int)<n.kids.length:=by rw[hk0];simp
 rw[show List.filter (fun x:Tree=>x.kind==3) n.kids=FL from hFL.symm,show List.filter (fun x:Tree=>x.kind==4) n.kids=FC from hFC.symm,hat0]
 rw[Lg.typR,<-hFL,<-hFC,e0]at hK;refine⟨hpos,?_⟩;simp only[go_sem];refine⟨_,t,x0,rfl,htab,ht,?_⟩;simp only[go_sem]
 refine⟨fun h=>?_,fun h=>?_⟩
 ·rw[if_pos (lF h)]at hK;refine qzm [10,3] [] (wT 1 (wR 0 (wR 2 (wA 3 (wT 4 (wT 5 wZ)))))) ?_;simp only[go_sem];exact⟨_,.cons (qjs (.nil _ _) (.nil _ _)) (.cons (.rfl _) (qzb (.rfl _))),hK ⟨n.text,0,0,[],[]⟩⟩
 rw[if_neg (lG h)]at hK
 refine⟨fun h=>?_,fun h=>?_⟩
 ·rw[if_pos (by have:=lF h;omega)]at hK;refine qzm [10,3] [] (wT 1 (wR 0 (wR 2 (wA 3 (wT 4 (wT 5 wZ)))))) ?_;simp only[go_sem];exact⟨_,.cons (qjs (.nil _ _) (.nil _ _)) (.cons (.rfl _) (qzb (.rfl _))),hK ⟨n.text,0,0,[],[]⟩⟩
 rw[if_neg (by have:=lG h;omega)]at hK;obtain⟨ow,how⟩:∃ow,ow=(s0.text==Lg.sOwn):=⟨_,rfl⟩;rw[<-how]at hK
 refine qzj (T:={q:List (List UInt8×Int)×Nat×Nat //qku ow FL q.1 q.2.1/\q.2.1<=FL.length/\q.1.length=q.2.1/\tyo q.2.2=193})
  (fun q=>⟨258,put 0 (.d x0) (put 3 (.bp 3 0) (put 4 (.bp 4 0) (put 5 (.d (.int .i64 0)) (put 6 (.d (.int .i64 0)) (put 7 (.d (.sl 5 (qze FL) false)) (put 8 (.d (.sl 5 (qze FC) false)) (put 9 (.bp 9 0) (put 10 (.bp 10 0) (put 12 (.d (.int .i64 q.1.2.1)) nix))))))))),put 3 ⟨[.d (.int .i64 n.kind),.d (.st n.text),.d (.int .i64 n.num),.d (.int .i64 n.pos),.d (.sl 5 (qze n.kids) false)],100⟩ (put 4 zty (put 9 ⟨[.d (.int .i64 s0.kind),.d (.st s0.text),.d (.int .i64 s0.num),.d (.int .i64 s0.pos),.d (.sl 5 (qze s0.kids) false)],100⟩ (put 10 (rtx n.text 0 0 (q.1.1.map fldD) []) nix))),owAr 104 2 q.1.2.2 (q.1.1.map fldD) nix⟩) (fun q=>FL.length-q.1.2.1)
  ⟨([],0,193),zjd _ _,by simp,rfl,rfl⟩ (qzh (sP6 (sP4 qza)) (sP4 qza) qza) ?_
 rintro⟨⟨fs,i,fty⟩,g1,g2,g3,g4⟩;have hrel:qku ow FL fs i:=g1;have hi:i<=FL.length:=g2;have hfi:fs.length=i:=g3;have hft:tyo fty=193:=g4;dsimp only;clear g1 g2 g3 g4;simp only[rtx,zty,go_sem]
 refine⟨fun h=>?_,fun h=>?_⟩
 · have hlt:i<FL.length:=by have:=lF h;omega
   refine⟨by omega,by omega,?_⟩
   rw[lA,treeDs_at' hlt];obtain⟨f,hf⟩:∃f,f=FL[i]:=⟨_,rfl⟩;rw[<-hf];simp only[go_sem]
   refine qzj (T:={m:Nat //m<=i/\Lg.namedT (FL.take m) f.text=false})
    (fun m=>⟨258,put 0 (.d x0) (put 3 (.bp 3 0) (put 4 (.bp 4 0) (put 5 (.d (.int .i64 0)) (put 6 (.d (.int .i64 0)) (put 7 (.d (.sl 5 (qze FL) false)) (put 8 (.d (.sl 5 (qze FC) false)) (put 9 (.bp 9 0) (put 10 (.bp 10 0) (put 12 (.d (.int .i64 i)) (put 13 (.bp 13 0) (put 14 (.d (.int .i64 m.1)) nix))))))))))),put 3 ⟨[.d (.int .i64 n.kind),.d (.st n.text),.d (.int .i64 n.num),.d (.int .i64 n.pos),.d (.sl 5 (qze n.kids) false)],100⟩ (put 4 zty (put 9 ⟨[.d (.int .i64 s0.kind),.d (.st s0.text),.d (.int .i64 s0.num),.d (.int .i64 s0.pos),.d (.sl 5 (qze s0.kids) false)],100⟩ (put 10 (rtx n.text 0 0 (fs.map fldD) []) (put 13 ⟨[.d (.int .i64 f.kind),.d (.st f.text),.d (.int .i64 f.num),.d (.int .i64 f.pos),.d (.sl 5 (qze f.kids) false)],100⟩ nix)))),owAr 104 2 fty (fs.map fldD) nix⟩) (fun m=>i-m.1)
    ⟨0,by omega,rfl⟩ (qzh (sP6 (sP6 qza)) (sP5 qza) fun _ _ h=>h) ?_
   rintro⟨m,g1,g2⟩;have hm:m<=i:=g1;have hnm:Lg.namedT (FL.take m) f.text=false:=g2;dsimp only;clear g1 g2;simp only[rtx,zty,go_sem]
   refine⟨fun h=>?_,fun h=>?_⟩
   · have hmt:m<i:=by have:=lF h;omega
     have hml:m<FL.length:=by omega
     have hnext:Lg.namedT (FL.take (m+1)) f.text=(FL[m].text==f.text):=by
      unfold Lg.namedT at hnm⊢;rw[List.take_add_one,lD hml,List.any_append,hnm];simp
     refine qz5 ?_;simp only[go_sem]
     refine⟨by omega,by omega,?_⟩
     rw[lA,treeDs_at' hml];simp only[go_sem]
     refine⟨fun hx=>?_,fun hx=>?_⟩
     · have hfe:Lg.fieldAt ow FL i FL[i]=.error (f.pos,30):=by
        rw[<-hf,Lg.fieldAt,if_pos];unfold Lg.namedT;rw[List.any_eq_true]
        exact⟨FL[m],List.mem_take_iff_getElem.2 ⟨m,by omega,rfl⟩,hx⟩
       rw[qjc hrel hlt hfe]at hK
       rcases fs with _|⟨z,fs⟩
       all_goals
        refine qzm [10,13] [] (wT 1 (wR 0 (wR 2 (wA 3 (wT 4 (wT 5 wZ)))))) ?_;simp only[List.map_nil,List.map_cons,go_sem]
        first
         |exact⟨_,.cons (qjs (.nil _ _) (.nil _ _)) (.cons (.rfl _) (qzb (.rfl _))),hK ⟨n.text,0,0,[],[]⟩⟩
         |exact⟨_,.cons (qjs (.rfl _) (.nil _ _)) (.cons (.rfl _) (qzb (.rfl _))),hK ⟨n.text,0,0,z::fs,[]⟩⟩
     · rw[hx]at hnext
       refine⟨⟨by omega,by omega⟩,?_⟩
       exact⟨⟨m+1,hmt,hnext⟩,qzh (sP6 (sP6 qza)) (sP5 qza) (fun _ _ h=>h),by show i-(m+1)<i-m;omega⟩
   · have hmi:m=i:=by have:=lG h;omega
     subst hmi
     refine⟨fun hk=>?_,fun hk=>?_⟩
     · have hkp:(0:Int)<f.kids.length:=by have:=lF hk;omega
       have hkn:f.kids≠[]:=by intro e;rw[e]at hkp;simp at hkp
       obtain⟨q0,q1⟩:=qkj hkn;refine⟨q1,?_⟩;rw[q0];simp only[go_sem];refine⟨_,FL,false,rfl,hFl,?_⟩
       generalize hq:Lg.numb (Lg.kid0 f).text FL=q
       have hoe:(s0.text==[111,119,110])=ow:=how.symm
       have hfa:Lg.fieldAt ow FL m f=if ow&&decide (0<=q)then .ok (f.text,q)else .error (f.pos,32):=by
        rw[Lg.fieldAt,if_neg (by rw[hnm];decide),if_neg (by cases e:f.kids with|nil=>exact absurd e hkn|cons a b=>simp),hq]
       cases ow
       · rw[Bool.false_and,if_neg (by decide)]at hfa;rw[qjc hrel hlt (e:=(f.pos,32)) (by rw[<-hf];exact hfa)]at hK;simp only[hoe,go_sem]
         rcases fs with _|⟨z,fs⟩
         all_goals
          refine qzm [10,13] [] (wT 1 (wR 0 (wR 2 (wA 3 (wT 4 (wT 5 wZ)))))) ?_;simp only[List.map_nil,List.map_cons,go_sem]
          first
           |exact⟨_,.cons (qjs (.nil _ _) (.nil _ _)) (.cons (.rfl _) (qzb (.rfl _))),hK ⟨n.text,0,0,[],[]⟩⟩
           |exact⟨_,.cons (qjs (.rfl _) (.nil _ _)) (.cons (.rfl _) (qzb (.rfl _))),hK ⟨n.text,0,0,z::fs,[]⟩⟩
       · rw[Bool.true_and]at hfa;simp only[hoe,go_sem]
         refine⟨fun hq=>?_,fun hq=>?_⟩
         · rw[if_neg (by have:=lF hq;simp;omega)]at hfa;rw[qjc hrel hlt (e:=(f.pos,32)) (by rw[<-hf];exact hfa)]at hK
           rcases fs with _|⟨z,fs⟩
           all_goals
            refine qzm [10,13] [] (wT 1 (wR 0 (wR 2 (wA 3 (wT 4 (wT 5 wZ)))))) ?_;simp only[List.map_nil,List.map_cons,go_sem]
            first
             |exact⟨_,.cons (qjs (.nil _ _) (.nil _ _)) (.cons (.rfl _) (qzb (.rfl _))),hK ⟨n.text,0,0,[],[]⟩⟩
             |exact⟨_,.cons (qjs (.rfl _) (.nil _ _)) (.cons (.rfl _) (qzb (.rfl _))),hK ⟨n.text,0,0,z::fs,[]⟩⟩
         · rw[if_pos (by have:=lG hq;simp;omega)]at hfa;have hfo:=hfa;obtain⟨l,hpl⟩:∃l,l=fs:=⟨_,rfl⟩
           rcases fs with _|⟨z,fs⟩
           all_goals
            have hfi2:=hfi;simp only[lB,lH]at hfi2;simp only[List.map_nil,List.map_cons,go_sem]
            repeat' apply And.intro
            all_goals first
             |omega
             |exact hft
             |exact⟨⟨(l++[(f.text,q)],m+1,tyF l fty),qkt (hpl▸hrel) hlt (hf▸hfo),hlt,by rw[hpl,lC,hfi];rfl,by show tyo (tyF l fty)=193;rw[hpl];first|rfl|exact hft⟩,qzh (sP6 (sP4 qza)) (sP3 (qzd (by simp[put,rtx,owLV,hpl,fldD]) qza)) (qqf (fun _=>by simp[put,hpl,fldD,tyF]) qza),by show FL.length-(m+1)<FL.length-m;omega⟩
     · have hke:f.kids.isEmpty=true:=by
        have:=lG hk
        cases e:f.kids with
        |nil=>rfl
        |cons a b=>rw[e]at this;simp at this
       have hfo:Lg.fieldAt ow FL m f=.ok (f.text, -1):=by rw[Lg.fieldAt,if_neg (by rw[hnm];decide),if_pos hke]
       obtain⟨l,hpl⟩:∃l,l=fs:=⟨_,rfl⟩
       rcases fs with _|⟨z,fs⟩
       all_goals
        have hfi2:=hfi;simp only[lB,lH]at hfi2;simp only[List.map_nil,List.map_cons,go_sem]
        repeat' apply And.intro
        all_goals first
         |omega
         |exact hft
         |exact⟨⟨(l++[(f.text, -1)],m+1,tyF l fty),qkt (hpl▸hrel) hlt (hf▸hfo),hlt,by rw[hpl,lC,hfi];rfl,by show tyo (tyF l fty)=193;rw[hpl];first|rfl|exact hft⟩,qzh (sP6 (sP4 qza)) (sP3 (qzd (by simp[put,rtx,owLV,hpl,fldD]) qza)) (qqf (fun _=>by simp[put,hpl,fldD,tyF]) qza),by show FL.length-(m+1)<FL.length-m;omega⟩
 · have hie:i=FL.length:=by have:=lG h;omega
   rw[zqp hrel hie,Lg.sbnd]at hK
   have hsx5:s0.text=Lg.sOwn\/s0.text=Lg.sCell\/s0.text=Lg.zvh\/s0.text=Lg.sLock\/s0.text=Lg.sGuard:=by
    have h5:Lg.sorts.any (fun x=>x==s0.text)=true:=by rw[<-Lg.idxF_any _ _ 0];exact decide_eq_true hsx
    simp only[Lg.sorts,List.any_cons,List.any_nil,Bool.or_false,Bool.or_eq_true,beq_iff_eq]at h5
    rcases h5 with h|h|h|h|h
    ·exact .inl h.symm
    ·exact .inr (.inl h.symm)
    ·exact .inr (.inr (.inl h.symm))
    ·exact .inr (.inr (.inr (.inl h.symm)))
    ·exact .inr (.inr (.inr (.inr h.symm)))
   have fin:∀{k o:Int},(match(Lg.sbnd (Lg.zq2 k o FL FC) fun xs=>.ok ⟨n.text,k,o,fs,xs⟩:Lg.SR Ty)with
     |.ok x=>Kr (.tup [.d (qqk x),.d (.int .i64 0),.d (.int .i64 0)]) nix none
     |.error (p,c)=>∀u:Ty,Kr (.tup [.d (qqk u),.d (.int .i64 p),.d (.int .i64 c)]) nix none)->(match Lg.zq2 k o FL FC with
     |.ok xs=>Kr (.tup [.d (qqk ⟨n.text,k,o,fs,xs⟩),.d (.int .i64 0),.d (.int .i64 0)]) nix none
     |.error (p,c)=>∀u:Ty,Kr (.tup [.d (qqk u),.d (.int .i64 p),.d (.int .i64 c)]) nix none):=fun {k o} h=>by
    cases e:Lg.zq2 k o FL FC with
    |ok xs=>rw[e]at h;exact h
    |error pc=>rw[e]at h;exact h
   rw[Lg.sortR]at hK
   rcases hsx5 with hx|hx|hx|hx|hx
   · rw[hx]at hK⊢
     rw[show Lg.qxf Lg.sOwn=0 from rfl,if_neg (by decide),if_neg (by decide),Lg.sbnd]at hK
     have q1:(Lg.sOwn==[99,101,108,108])=false:=rfl;have q2:(Lg.sOwn==[99,111,117,110,116,101,100])=false:=rfl;have q3:(Lg.sOwn==[108,111,99,107])=false:=rfl;have q4:(Lg.sOwn==[103,117,97,114,100])=false:=rfl;simp only[q1,q2,q3,q4,bne_self_eq_false,beq_self_eq_true,Bool.false_eq_true,Bool.true_eq_false,false_implies,true_implies,true_and,and_true,eq_self,go_sem];subst hr
     exact rest57 (k:=0) (o:=0) (fty:=fty) (fs:=fs) ⟨rfl,sP5 qza,sP2 qza,fun _ _ h=>h⟩ hFl hFc hFcs (fin hK)
   · rw[hx]at hK⊢
     rw[show Lg.qxf Lg.sCell=1 from rfl,if_neg (by decide),if_neg (by decide),Lg.sbnd]at hK
     have q1:(Lg.sCell==[99,101,108,108])=true:=rfl;have q2:(Lg.sCell==[99,111,117,110,116,101,100])=false:=rfl;have q3:(Lg.sCell==[108,111,99,107])=false:=rfl;have q4:(Lg.sCell==[103,117,97,114,100])=false:=rfl;simp only[q1,q2,q3,q4,bne_self_eq_false,beq_self_eq_true,Bool.false_eq_true,Bool.true_eq_false,false_implies,true_implies,true_and,and_true,eq_self,go_sem];subst hr
     exact rest57 (k:=1) (o:=0) (fty:=fty) (fs:=fs) ⟨rfl,sP5 qza,sP2 qza,fun _ _ h=>h⟩ hFl hFc hFcs (fin hK)
   · rw[hx]at hK⊢
     rw[show Lg.qxf Lg.zvh=2 from rfl,if_pos (.inl rfl)]at hK
     have q1:(Lg.zvh==[99,101,108,108])=false:=rfl;have q2:(Lg.zvh==[99,111,117,110,116,101,100])=true:=rfl;have q3:(Lg.zvh==[108,111,99,107])=false:=rfl;have q4:(Lg.zvh==[103,117,97,114,100])=false:=rfl;have hkn:=hso (by rw[hx];decide);obtain⟨p0,p1⟩:=qkj hkn;simp only[q1,q2,q3,q4,p0,bne_self_eq_false,beq_self_eq_true,Bool.false_eq_true,Bool.true_eq_false,false_implies,true_implies,true_and,and_true,eq_self,go_sem];refine⟨p1,_,FL,false,rfl,hFl,?_⟩
     generalize Lg.numb (Lg.kid0 s0).text FL=q at hK
     simp only[go_sem]
     refine⟨fun hq=>?_,fun hq=>?_⟩
     · rw[if_neg (by have:=lF hq;omega)]at hK
       rcases fs with _|⟨z,fs⟩
       all_goals
        refine qzm [10,9] [] (wT 1 (wR 0 (wR 2 (wA 3 (wT 4 (wT 5 wZ)))))) ?_;simp only[List.map_nil,List.map_cons,go_sem]
        first
         |exact⟨_,.cons (qjs (.nil _ _) (.nil _ _)) (.cons (.rfl _) (qzb (.rfl _))),hK ⟨n.text,2,0,[],[]⟩⟩
         |exact⟨_,.cons (qjs (.rfl _) (.nil _ _)) (.cons (.rfl _) (qzb (.rfl _))),hK ⟨n.text,2,0,z::fs,[]⟩⟩
     · rw[if_pos (by have:=lG hq;omega),Lg.sbnd]at hK;subst hr
       exact rest57 (k:=2) (o:=q) (fty:=fty) (fs:=fs) ⟨rfl,sP5 qza,sP2 qza,fun _ _ h=>h⟩ hFl hFc hFcs (fin hK)
   · rw[hx]at hK⊢
     rw[show Lg.qxf Lg.sLock=3 from rfl,if_pos (.inr rfl)]at hK
     have q1:(Lg.sLock==[99,101,108,108])=false:=rfl;have q2:(Lg.sLock==[99,111,117,110,116,101,100])=false:=rfl;have q3:(Lg.sLock==[108,111,99,107])=true:=rfl;have q4:(Lg.sLock==[103,117,97,114,100])=false:=rfl;have hkn:=hso (by rw[hx];decide);obtain⟨p0,p1⟩:=qkj hkn;simp only[q1,q2,q3,q4,p0,bne_self_eq_false,beq_self_eq_true,Bool.false_eq_true,Bool.true_eq_false,false_implies,true_implies,true_and,and_true,eq_self,go_sem];refine⟨p1,_,FL,false,rfl,hFl,?_⟩
     generalize Lg.numb (Lg.kid0 s0).text FL=q at hK
     simp only[go_sem]
     refine⟨fun hq=>?_,fun hq=>?_⟩
     · rw[if_neg (by have:=lF hq;omega)]at hK
       rcases fs with _|⟨z,fs⟩
       all_goals
        refine qzm [10,9] [] (wT 1 (wR 0 (wR 2 (wA 3 (wT 4 (wT 5 wZ)))))) ?_;simp only[List.map_nil,List.map_cons,go_sem]
        first
         |exact⟨_,.cons (qjs (.nil _ _) (.nil _ _)) (.cons (.rfl _) (qzb (.rfl _))),hK ⟨n.text,3,0,[],[]⟩⟩
         |exact⟨_,.cons (qjs (.rfl _) (.nil _ _)) (.cons (.rfl _) (qzb (.rfl _))),hK ⟨n.text,3,0,z::fs,[]⟩⟩
     · rw[if_pos (by have:=lG hq;omega),Lg.sbnd]at hK;subst hr
       exact rest57 (k:=3) (o:=q) (fty:=fty) (fs:=fs) ⟨rfl,sP5 qza,sP2 qza,fun _ _ h=>h⟩ hFl hFc hFcs (fin hK)
   · rw[hx]at hK⊢
     rw[show Lg.qxf Lg.sGuard=4 from rfl,if_neg (by decide),if_pos rfl]at hK
     have q1:(Lg.sGuard==[99,101,108,108])=false:=rfl;have q2:(Lg.sGuard==[99,111,117,110,116,101,100])=false:=rfl;have q3:(Lg.sGuard==[108,111,99,107])=false:=rfl;have q4:(Lg.sGuard==[103,117,97,114,100])=true:=rfl;have hkn:=hso (by rw[hx];decide);obtain⟨p0,p1⟩:=qkj hkn;simp only[q1,q2,q3,q4,p0,bne_self_eq_false,beq_self_eq_true,Bool.false_eq_true,Bool.true_eq_false,false_implies,true_implies,true_and,and_true,eq_self,go_sem];refine⟨p1,_,t,x0,rfl,htab,ht,?_⟩;have hrg:=Lg.finds_range t (Lg.kid0 s0).text
     generalize Lg.qkv t (Lg.kid0 s0).text=q at hK hrg
     by_cases hq0:q<0
     · rw[if_neg (by rintro⟨h,_⟩;omega)]at hK;simp only[go_sem]
       refine⟨fun _=>?_,fun hq=>absurd hq0 (lG hq)⟩
       rcases fs with _|⟨z,fs⟩
       all_goals
        refine qzm [10,9] [] (wT 1 (wR 0 (wR 2 (wA 3 (wT 4 (wT 5 wZ)))))) ?_;simp only[List.map_nil,List.map_cons,go_sem]
        first
         |exact⟨_,.cons (qjs (.nil _ _) (.nil _ _)) (.cons (.rfl _) (qzb (.rfl _))),hK ⟨n.text,4,q,[],[]⟩⟩
         |exact⟨_,.cons (qjs (.rfl _) (.nil _ _)) (.cons (.rfl _) (qzb (.rfl _))),hK ⟨n.text,4,q,z::fs,[]⟩⟩
     · have hq1:0<=q/\q<t.length:=by rcases hrg with h|h;omega;exact h
       obtain⟨f1,rfl⟩:∃f,x0=.sl 5 (t.map qqk) f:=by
        rcases htab with h|⟨_,rfl⟩
        ·exact h
        ·simp at hq1;omega
       obtain⟨u,hu⟩:∃u,t[q.toNat]?=some u:=⟨_,lD (by omega)⟩
       have hug:(t.map qqk)[q.toNat]?=some (qqk u):=by rw[List.getElem?_map,hu];rfl
       rw[hu]at hK;simp only[lE,hug,go_sem]
       refine⟨fun hq=>absurd (lF hq) hq0,fun _=>⟨hq1.1,hq1.2,?_⟩⟩
       refine⟨fun h3=>?_,fun h3=>?_⟩
       · rw[if_neg (by rintro⟨_,h⟩;simp at h;rw[h]at h3;simp at h3)]at hK
         rcases fs with _|⟨z,fs⟩
         all_goals
          refine qzm [10,9] [] (wT 1 (wR 0 (wR 2 (wA 3 (wT 4 (wT 5 wZ)))))) ?_;simp only[List.map_nil,List.map_cons,go_sem]
          first
           |exact⟨_,.cons (qjs (.nil _ _) (.nil _ _)) (.cons (.rfl _) (qzb (.rfl _))),hK ⟨n.text,4,q,[],[]⟩⟩
           |exact⟨_,.cons (qjs (.rfl _) (.nil _ _)) (.cons (.rfl _) (qzb (.rfl _))),hK ⟨n.text,4,q,z::fs,[]⟩⟩
       · have hu3:u.sort=3:=by simpa using h3
         rw[if_pos ⟨hq1.1,by rw[Option.map_some,hu3]⟩]at hK
         refine⟨fun hl=>?_,fun hl=>⟨fun hl2=>?_,fun hl2=>?_⟩⟩
         rotate_right
         · rw[if_pos (by have:=lG hl;have:=lG hl2;omega),Lg.sbnd]at hK;subst hr
           exact rest57 (k:=4) (o:=q) (fty:=fty) (fs:=fs) ⟨rfl,sP5 qza,sP2 qza,fun _ _ h=>h⟩ hFl hFc hFcs (fin hK)
         all_goals
          rw[if_neg (by first|(have:=lF hl;omega)|(have:=lF hl2;omega))]at hK
          rcases fs with _|⟨z,fs⟩
          all_goals
           refine qzm [10,9] [] (wT 1 (wR 0 (wR 2 (wA 3 (wT 4 (wT 5 wZ)))))) ?_;simp only[List.map_nil,List.map_cons,go_sem]
           first
            |exact⟨_,.cons (qjs (.nil _ _) (.nil _ _)) (.cons (.rfl _) (qzb (.rfl _))),hK ⟨n.text,4,q,[],[]⟩⟩
            |exact⟨_,.cons (qjs (.rfl _) (.nil _ _)) (.cons (.rfl _) (qzb (.rfl _))),hK ⟨n.text,4,q,z::fs,[]⟩⟩
def tySorts (n:Tree):Prop:=∀k∈n.kids,k.kind=1->0<=Lg.qxf (Lg.kid0 k).text
theorem typR_ne {t:List Ty}{n:Tree}{a c:Int}(h:Lg.typR t n=.error (a,c)):c≠0:=by
 have hF:∀{own:Bool} {all:List Tree} {fs:List Tree} {i:Nat} {a c:Int},Lg.zqq own all i fs=.error (a,c)->c≠0:=by
  intro own all fs
  induction fs with
  |nil=>intro i a c h;cases h
  |cons f fs ih=>
   intro i a c h;unfold Lg.zqq at h
   cases e:Lg.fieldAt own all i f with
   |error x=>
    rw[e]at h;cases h;unfold Lg.fieldAt at e;split at e
    ·cases e;decide
    · split at e
      ·cases e
      · split at e
        ·cases e
        ·cases e;decide
   |ok x=>
    rw[e,Lg.sbnd]at h
    cases e2:Lg.zqq own all (i+1) fs with
    |error y=>rw[e2]at h;cases h;exact ih e2
    |ok y=>rw[e2]at h;cases h
 have hV:∀{k o:Int} {fl:List Tree} {n x:Tree} {a c:Int},Lg.zv9 k o fl n x=.error (a,c)->c≠0:=by
  intro k o fl n x a c h;unfold Lg.zv9 at h;split at h
  ·cases h
  · split at h
    ·cases h
    ·cases h;decide
 have hX:∀{k o:Int} {fl:List Tree} {ns:List Tree} {a c:Int},Lg.zq2 k o fl ns=.error (a,c)->c≠0:=by
  intro k o fl ns
  induction ns with
  |nil=>intro a c h;cases h
  |cons n ns ih=>
   intro a c h;unfold Lg.zq2 at h
   cases e:Lg.factR k o fl n with
   |error x=>
    rw[e]at h;cases h;unfold Lg.factR at e
    cases e1:Lg.zv9 k o fl n (Lg.kid0 n)with
    |error y=>rw[e1]at e;cases e;exact hV e1
    |ok y=>
     rw[e1,Lg.sbnd]at e
     cases e2:Lg.zv9 k o fl n (Lg.kid1 n)with
     |error z=>rw[e2]at e;cases e;exact hV e2
     |ok z=>rw[e2]at e;cases e
   |ok x=>
    rw[e,Lg.sbnd]at h
    cases e2:Lg.zq2 k o fl ns with
    |error y=>rw[e2]at h;cases h;exact ih e2
    |ok y=>rw[e2]at h;cases h
 unfold Lg.typR at h;split at h
 ·cases h;decide
 · split at h
   ·cases h;decide
   · cases e:Lg.zqq ((Lg.kid0 n).text==Lg.sOwn) (n.kids.filter Lg.zza) 0 (n.kids.filter Lg.zza)with
     |error x=>rw[e]at h;cases h;exact hF e
     |ok x=>
      rw[e,Lg.sbnd]at h
      cases e2:Lg.sortR t (Lg.kid0 n) (n.kids.filter Lg.zza) (n.kids.filter Lg.isFct)with
      |error y=>
       rw[e2]at h;cases h;unfold Lg.sortR at e2;split at e2
       · split at e2
         ·cases e2
         ·cases e2;decide
       · split at e2
         · split at e2
           · split at e2
             ·cases e2
             ·cases e2;decide
           ·cases e2;decide
         ·cases e2
      |ok y=>
       rw[e2,Lg.sbnd]at h
       cases e3:Lg.zq2 y.1 y.2 (n.kids.filter Lg.zza) (n.kids.filter Lg.isFct)with
       |error z=>rw[e3]at h;cases h;exact hX e3
       |ok z=>rw[e3]at h;cases h
def rtypesS:Spec:=fun ys bx Kr _=>∃n,ys=[.d (qzr n)]/\Lg.size n<=4096/\Lg.Tops n/\tySorts n/\match Lg.qj9 [] n.kids with
 |.ok t=>Kr (.tup [.d (.sl 5 (t.map qqk) false),.d (.int .i64 0),.d (.int .i64 0)]) nix none
 |.error (a,c)=>Kr (.tup [.d (.sl 5 [] false),.d (.int .i64 a),.d (.int .i64 c)]) nix none
def tabL (l:List Ty):D:=match l with
 |[]=>.imm (.slice none 0 0)
 |x::xs=>.sl 5 ((x::xs).map qqk) false
def tyK (l:List Ty)(t:Nat):Nat:=match l with
 |[]=>177
 |_=>t
theorem rtypes_OK:OK Tryz.prog 24 rtypesS:=by
 refine fn_OK' qzu (E:=EV) (sp:=spL [(57,.b roneT.up)]) qzt qzl (OKs.ok ⟨roneT_OK.up,trivial⟩) func24 rfl ntmps24 results24 call24 [] none ?_;rintro ys bx Kr Kp ⟨n,rfl,hsz,htop,hts,hK⟩
 refine⟨[],rfl,trivial,by simp,?_⟩
 have hnl:n.kids.length<=4096:=qj4 hsz;simp only[go_sem]
 refine qzj (T:={q:List Ty×Nat×Nat //Lg.qj9 [] n.kids=Lg.qj9 q.1 (n.kids.drop q.2.1)/\q.2.1<=n.kids.length/\q.1.length<=q.2.1/\tyo q.2.2=177})
  (fun q=>⟨44,put 1 (.bp 1 0) (put 5 (owLV 42 5 (q.1.1.map qqk)) (put 6 (.d (.int .i64 q.1.2.1)) nix)),put 1 ⟨[.d (.int .i64 n.kind),.d (.st n.text),.d (.int .i64 n.num),.d (.int .i64 n.pos),.d (.sl 5 (qze n.kids) false)],100⟩ nix,owAr 42 5 q.1.2.2 (q.1.1.map qqk) nix⟩) (fun q=>n.kids.length-q.1.2.1)
  ⟨([],0,177),rfl,by simp,by simp,rfl⟩ (qzh (sP3 qza) (sP1 qza) qza) ?_
 rintro⟨⟨gs,i,gty⟩,g1,g2,g3,g4⟩;have hrel:Lg.qj9 [] n.kids=Lg.qj9 gs (n.kids.drop i):=g1;have hi:i<=n.kids.length:=g2;have hgl:gs.length<=i:=g3;have hgt:tyo gty=177:=g4;dsimp only;clear g1 g2 g3 g4;have hgt1:tyo (lnt gty)=177:=(qzq _).trans hgt;obtain⟨l,hpl⟩:∃l,l=gs:=⟨_,rfl⟩
 rcases gs with _|⟨z,gs⟩
 all_goals
  have hgl2:=hgl;simp only[lB,lH]at hgl2;simp only[List.map_nil,List.map_cons,go_sem]
  refine⟨fun h=>?_,fun h=>?_⟩
  · have hlt:i<n.kids.length:=by have:=lF h;omega
    refine⟨by omega,by omega,?_⟩
    have hkat:(qze n.kids)[i]?=some (qzr n.kids[i]):=treeDs_at' hlt;rw[lA,hkat];rw[List.drop_eq_getElem_cons hlt,Lg.qj9]at hrel;have hk4:=qj4 (kid_le hsz hlt);have htk:=htop _ (List.getElem_mem hlt);have hsk:=hts _ (List.getElem_mem hlt)
    generalize n.kids[i]=k at hrel hk4 htk hsk hkat⊢
    have c0:(0<=(i:Int))=True:=eq_true (by omega);have c1:((i:Int)<n.kids.length)=True:=eq_true (by omega);simp only[c0,c1,lA,hkat,go_sem]
    refine⟨fun h6=>?_,fun h6=>?_⟩
    · have h6:¬k.kind=1:=by simpa using h6
      rw[if_neg h6]at hrel
      refine⟨⟨by omega,by omega⟩,?_⟩
      exact⟨⟨(l,i+1,tyK l gty),by rw[hpl];exact hrel,hlt,by show l.length<=i+1;rw[hpl];exact Nat.le_succ_of_le hgl,by show tyo (tyK l gty)=177;rw[hpl];first|rfl|exact hgt⟩,qzh (sP1 (qzd (by simp[put,owLV,hpl]) (sP1 qza))) (sP1 qza) (qqf (fun hne=>by first|(simp[put,hpl,tyK];done)|exact absurd (by simp[hpl]) hne) qza),by show n.kids.length-(i+1)<n.kids.length-i;omega⟩
    · have h6:k.kind=1:=by simpa using h6
      rw[if_pos h6]at hrel
      refine⟨l,k,tabL l,(by rw[hpl];first|exact .inr ⟨rfl,rfl⟩|exact .inl ⟨false,rfl⟩),by rw[hpl,qzy];rfl,by rw[hpl];omega,hk4,htk h6,hsk h6,?_⟩
      rw[hpl]
      cases hs:Lg.typR _ k with
      |error e=>
       obtain⟨a,c⟩:=e;rw[hs,Lg.sbnd]at hrel;rw[hrel]at hK;intro u;simp only[go_sem]
       refine⟨fun _=>?_,fun hc=>absurd (by simpa using hc) (typR_ne hs)⟩
       exact⟨_,.cons (.nil _ _) (.cons (.rfl _) (qzb (.rfl _))),hK⟩
      |ok g=>
       rw[hs,Lg.sbnd]at hrel;simp only[go_sem]
       repeat' apply And.intro
       all_goals first
        |omega
        |exact hgt1
        |exact⟨⟨(l++[g],i+1,tyK l (lnt gty)),by rw[hpl];exact hrel,hlt,by show(l++[g]).length<=i+1;rw[hpl,lC];simp only[lB,lH];omega,by show tyo (tyK l (lnt gty))=177;rw[hpl];first|rfl|exact hgt1⟩,qzh (sP1 (qzd (by simp[put,owLV,hpl]) (sP1 qza))) (sP1 qza) (qqf (fun _=>by simp[put,hpl,tyK,qqk,lnt]<;>rfl) qza),by show n.kids.length-(i+1)<n.kids.length-i;omega⟩
  · have hie:i=n.kids.length:=by have:=lG h;omega
    rw[hie,List.drop_length,Lg.qj9]at hrel;rw[hrel]at hK
    first
     |exact⟨_,.cons (.nil _ _) (.cons (.rfl _) (qzb (.rfl _))),hK⟩
     |exact⟨_,.cons (.rfl _) (.cons (.rfl _) (qzb (.rfl _))),hK⟩
open Lg (Tok Tree)
def rbx (T:List Tok)(i:Nat)(deep fl a:Int):Box:=⟨[.d (.sl 4 (T.map tokD) false),.d (.int .i64 (i:Int)),.d (.int .i64 deep),.d (.int .i64 fl),.d (.int .i64 a)],168⟩
@[go_sem ↓]theorem rbx_ok (T:List Tok)(i:Nat)(deep fl a:Int):(allD (rbx T i deep fl a).cells).isSome=true:=(rfl)
@[go_sem ↓]theorem rbx_fz (r n:Nat)(x:D)(T:List Tok)(i:Nat)(deep fl a:Int):Box.fz r n x (rbx T i deep fl a)=rbx T i deep fl a:=(rfl)
@[go_sem ↓]theorem rbx_fgt (k:Nat)(T:List Tok)(i:Nat)(deep fl a:Int):Box.fgt k (rbx T i deep fl a)=rbx T i deep fl a:=(rfl)
theorem zsub {n:Nat}{tm tm':Nat->Option LV}{bx bx':Bx}{ar ar':Ar}(h1:subm tm tm')(h2:subm bx bx')(h3:subm ar ar'):Sub ⟨n,tm,bx,ar⟩ ⟨n,tm',bx',ar'⟩:=⟨rfl,h1,h2,h3⟩
def KeyOk (T:List Tok):Prop:=∀t∈T,t.kind=4->Lg.isKey t.text=false
def At (T:List Tok)(i:Nat)(ts:List Tok):Prop:=T.drop i=ts/\Good ts/\T.length<=2097152/\KeyOk T
theorem At.lt {T:List Tok}{i:Nat}{ts:List Tok}(h:At T i ts):i<T.length:=by
 obtain⟨rfl,h2,h3,h4⟩:=h;obtain⟨t,l,e⟩:=h2.cons;have:=congrArg List.length e;rw[List.length_drop,lB]at this;omega
theorem At.get {T:List Tok}{i:Nat}{ts:List Tok}(h:At T i ts):(T.map tokD)[i]?=some (tokD (Lg.hd ts)):=by
 have hl:=h.lt;obtain⟨rfl,h2,h3,h4⟩:=h;rw[List.getElem?_map,lD hl];rw[List.drop_eq_getElem_cons hl];rfl
theorem At.i0 {T:List Tok}{i:Nat}{ts:List Tok}(_:At T i ts):(0<=(i:Int))=True:=eq_true (by omega)
theorem At.i1 {T:List Tok}{i:Nat}{ts:List Tok}(h:At T i ts):((i:Int)<(T.length:Int))=True:=eq_true (by have:=h.lt;omega)
theorem At.next {T:List Tok}{i:Nat}{ts:List Tok}(h:At T i ts)(hk:(Lg.hd ts).kind≠0):At T (i+1) ts.tail:=by
 obtain⟨rfl,h2,h3,h4⟩:=h;refine⟨?_,(h2.hd hk).2.2,h3,h4⟩;rw[List.tail_drop]
theorem At.mem {T:List Tok}{i:Nat}{ts:List Tok}(h:At T i ts):Lg.hd ts∈T:=by
 have hl:=h.lt;obtain⟨rfl,h2,h3,h4⟩:=h;rw[List.drop_eq_getElem_cons hl];exact List.getElem_mem hl
theorem At.key {T:List Tok}{i:Nat}{ts:List Tok}(h:At T i ts){s:List UInt8}(hs:Lg.isKey s=true):Lg.isT s ts=((Lg.hd ts).kind==2&&(Lg.hd ts).text==s):=by
 unfold Lg.isT
 cases h2:(Lg.hd ts).kind==2 with
 |true=>rfl
 |false=>
  cases h4:(Lg.hd ts).kind==4 with
  |false=>rfl
  |true=>
   have:=h.2.2.2 _ h.mem (by simpa using h4)
   cases h5:(Lg.hd ts).text==s with
   |false=>rfl
   |true=>
    rw[eq_of_beq h5,hs]at this;cases this
theorem At.isT {T:List Tok}{i:Nat}{ts:List Tok}{s:List UInt8}(h:At T i ts)(hs:Lg.isT s ts=true):At T (i+1) ts.tail:=h.next (zv0 hs)
def refQ {α:Type}(T:List Tok)(deep a:Int)(bad:α->Prop)(res:α->LV)(Kr:LV->Bx->Ar1->Prop):Lg.PR α->Prop
 |.ok (x,ts')=>∀i,At T i ts'->Kr (res x) (put 1000 (rbx T i deep 0 a) nix) none
 |.error (p,c)=>c≠0->∀y i,bad y->(∃ts',At T i ts')->Kr (res y) (put 1000 (rbx T i deep c p) nix) none
def refP {α:Type}(bad:α->Prop)(res:α->LV)(f:List Tok->Lg.PR α)(args:List LV):Spec:=fun ys bx Kr _=>∃T i ts deep fl a,ys=.bp 1000 0::args/\bx 1000=some (rbx T i deep fl a)/\At T i ts/\
 ((fl=0/\refQ T deep a bad res Kr (f ts))\/(fl≠0/\∀y,bad y->Kr (res y) (put 1000 (rbx T i deep fl a) nix) none))
def zzp:Spec:=fun ys bx Kr _=>∃T i ts deep fl a c,ys=[.bp 1000 0,.d (.int .i64 c)]/\bx 1000=some (rbx T i deep fl a)/\At T i ts/\
 ((fl=0/\Kr (.tup []) (put 1000 (rbx T i deep c (Lg.hd ts).pos) nix) none)\/(fl≠0/\Kr (.tup []) (put 1000 (rbx T i deep fl a) nix) none))
theorem qkc:OK Tryz.prog 106 zzp:=by
 refine fn_OK' qzu (E:=EV) (sp:=spL []) qzt qzl (OKs.ok trivial) func106 rfl ntmps106 results106 call106 [1000] none ?_;rintro ys bx Kr Kp ⟨T,i,ts,deep,fl,a,c,rfl,hb,hA,hK⟩
 refine⟨[(1000,rbx T i deep fl a)],rfl,⟨by decide,hb,trivial⟩,by simp,?_⟩
 have hl:=hA.lt
 rcases hK with⟨rfl,hK⟩|⟨hf,hK⟩
 ·simp only[rbx,lE,lA,hA.i0,hA.i1,hA.get,tokD,List.take_length,go_sem];refine qzm [] [] (wT 0 (wT 1 (wT 5 (wR 2 (wT 3 (wR 6 (wT 7 (wB 4 (wA 8 (wR 9 (wT 10 (wR 11 (wR 12 (wT 13 (wA 14 wZ))))))) 8 (wA 4 (wR 9 (wT 10 (wR 11 (wR 12 (wT 13 (wA 14 wZ))))))))))))))) ?_;simp only[rbx,lE,lA,hA.i0,hA.i1,hA.get,tokD,List.take_length,go_sem];exact⟨_,.nil,hK⟩
 · have hf':(fl==0)=false:=by simpa using hf
   simp only[hf',rbx,lE,lA,hA.i0,hA.i1,hA.get,tokD,List.take_length,go_sem];exact⟨_,.nil,hK⟩
def ris:Spec:=fun ys bx Kr _=>∃T i ts deep fl a s,ys=[.bp 1000 0,.d (.st s)]/\bx 1000=some (rbx T i deep fl a)/\At T i ts/\
 ((fl=0/\Kr (.d (.bool (Lg.isT s ts))) (put 1000 (rbx T i deep 0 a) nix) none)\/(fl≠0/\Kr (.d (.bool false)) (put 1000 (rbx T i deep fl a) nix) none))
theorem zxu:OK Tryz.prog 103 ris:=by
 refine fn_OK' qzu (E:=EV) (sp:=spL []) qzt qzl (OKs.ok trivial) func103 rfl ntmps103 results103 call103 [1000] none ?_;rintro ys bx Kr Kp ⟨T,i,ts,deep,fl,a,s,rfl,hb,hA,hK⟩
 refine⟨[(1000,rbx T i deep fl a)],rfl,⟨by decide,hb,trivial⟩,by simp,?_⟩
 have hl:=hA.lt
 rcases hK with⟨rfl,hK⟩|⟨hf,hK⟩
 · unfold Lg.isT at hK;simp only[rbx,lE,lA,hA.i0,hA.i1,hA.get,tokD,List.take_length,go_sem];refine qz5 ?_;simp only[rbx,lE,lA,hA.i0,hA.i1,hA.get,tokD,List.take_length,go_sem];refine qz5 ?_;simp only[rbx,lE,lA,hA.i0,hA.i1,hA.get,tokD,List.take_length,go_sem]
   refine⟨fun h2=>⟨_,qzb (.rfl _),?_⟩,fun h2=>⟨fun h4=>⟨_,qzb (.rfl _),?_⟩,fun h4=>⟨_,qzb (.rfl _),?_⟩⟩⟩
   ·rw[h2]at hK;exact hK
   ·rw[h2,h4]at hK;exact hK
   ·rw[h2,h4]at hK;exact hK
 · have hf':(fl==0)=false:=by simpa using hf
   simp only[rbx,lE,lA,hA.i0,hA.i1,hA.get,tokD,List.take_length,go_sem];refine qz5 ?_;simp only[rbx,lE,lA,hA.i0,hA.i1,hA.get,tokD,List.take_length,go_sem];refine qz5 ?_;simp only[hf',rbx,lE,lA,hA.i0,hA.i1,hA.get,tokD,List.take_length,go_sem];exact⟨_,qzb (.rfl _),hK⟩
def rhas:Spec:=fun ys bx Kr _=>∃T i ts deep fl a s,ys=[.bp 1000 0,.d (.st s)]/\bx 1000=some (rbx T i deep fl a)/\At T i ts/\
 ((fl=0/\(Lg.isT s ts=true->Kr (.d (.bool true)) (put 1000 (rbx T (i+1) deep 0 a) nix) none)/\(Lg.isT s ts=false->Kr (.d (.bool false)) (put 1000 (rbx T i deep 0 a) nix) none))\/
  (fl≠0/\Kr (.d (.bool false)) (put 1000 (rbx T i deep fl a) nix) none))
theorem qxp:OK Tryz.prog 52 rhas:=by
 refine fn_OK' qzu (E:=EV) (sp:=spL [(103,ris)]) qzt qzl (OKs.ok ⟨zxu,trivial⟩) func52 rfl ntmps52 results52 call52 [1000] none ?_;rintro ys bx Kr Kp ⟨T,i,ts,deep,fl,a,s,rfl,hb,hA,hK⟩
 refine⟨[(1000,rbx T i deep fl a)],rfl,⟨by decide,hb,trivial⟩,by simp,?_⟩
 have hl:=hA.lt;have hT:=hA.2.2.1
 rcases hK with⟨rfl,hK1,hK2⟩|⟨hf,hK⟩
 · simp only[go_sem];refine⟨T,i,ts,deep,0,a,s,rfl,rfl,hA,.inl ⟨rfl,?_⟩⟩;simp only[rbx,lE,lA,hA.i0,hA.i1,hA.get,tokD,List.take_length,go_sem]
   refine⟨fun h=>⟨by omega,_,qzb (.rfl _),?_⟩,fun h=>⟨_,qzb (.rfl _),?_⟩⟩
   ·rw[h];exact hK1 h
   ·rw[h];exact hK2 h
 ·simp only[go_sem];refine⟨T,i,ts,deep,fl,a,s,rfl,rfl,hA,.inr ⟨hf,?_⟩⟩;simp only[go_sem];exact⟨_,qzb (.rfl _),hK⟩
def zq6:Spec:=fun ys bx Kr Kp=>∃s,refP (fun _=>True) (fun _=>.tup []) (Lg.must s) [.d (.st s)] ys bx Kr Kp
theorem qx1:OK Tryz.prog 54 zq6:=by
 refine fn_OK' qzu (E:=EV) (sp:=spL [(52,rhas),(106,zzp)]) qzt qzl (OKs.ok ⟨qxp,⟨qkc,trivial⟩⟩) func54 rfl ntmps54 results54 call54 [1000] none ?_;rintro ys bx Kr Kp ⟨s,T,i,ts,deep,fl,a,rfl,hb,hA,hK⟩
 refine⟨[(1000,rbx T i deep fl a)],rfl,⟨by decide,hb,trivial⟩,by simp,?_⟩
 rcases hK with⟨rfl,hK⟩|⟨hf,hK⟩
 · unfold Lg.must Lg.flt at hK;simp only[go_sem]
   refine⟨T,i,ts,deep,0,a,s,rfl,rfl,hA,.inl ⟨rfl,fun h=>?_,fun h=>?_⟩⟩
   ·rw[if_pos h]at hK;simp only[go_sem];exact⟨_,.nil,hK _ (hA.isT h)⟩
   ·rw[if_neg (by rw[h];decide)]at hK;simp only[go_sem];refine⟨T,i,ts,deep,0,a,20,rfl,rfl,hA,.inl ⟨rfl,?_⟩⟩;simp only[go_sem];exact⟨_,.nil,hK (by decide) () i trivial ⟨ts,hA⟩⟩
 ·simp only[go_sem];refine⟨T,i,ts,deep,fl,a,s,rfl,rfl,hA,.inr ⟨hf,?_⟩⟩;simp only[go_sem];refine⟨T,i,ts,deep,fl,a,20,rfl,rfl,hA,.inr ⟨hf,?_⟩⟩;simp only[go_sem];exact⟨_,.nil,hK () trivial⟩
def qx8 (t:Tree):D:=.ag [.int .i64 t.kind,.st t.text,.int .i64 t.num,.int .i64 t.pos,.imm (.slice none 0 0)]
@[go_sem]theorem bareD_eq (t:Tree):qx8 t=.ag [.int .i64 t.kind,.st t.text,.int .i64 t.num,.int .i64 t.pos,.imm (.slice none 0 0)]:=(rfl)
theorem qjq:OK Tryz.prog 104 (refP (fun _=>True) (fun t=>.d (qx8 t)) Lg.name []):=by
 refine fn_OK' qzu (E:=EV) (sp:=spL [(106,zzp)]) qzt qzl (OKs.ok ⟨qkc,trivial⟩) func104 rfl ntmps104 results104 call104 [1000] none ?_;rintro ys bx Kr Kp ⟨T,i,ts,deep,fl,a,rfl,hb,hA,hK⟩
 refine⟨[(1000,rbx T i deep fl a)],rfl,⟨by decide,hb,trivial⟩,by simp,?_⟩
 have hT:=hA.2.2.1;have hl:=hA.lt;simp only[rbx,lE,lA,hA.i0,hA.i1,hA.get,tokD,List.take_length,go_sem];refine qws [] [] (wT 0 (wT 4 (wR 1 (wT 2 (wR 5 (wT 6 (wC 3 (wB 7 (wR 8 (wR 9 (wD 10 11 wZ))) 10 (wA 7 (wR 8 (wR 9 (wA 11 wZ))))) 7 (wB 3 (wR 8 (wR 9 (wD 10 11 wZ))) 10 (wA 3 (wR 8 (wR 9 (wA 11 wZ))))) 10 (wB 3 (wA 7 (wR 8 (wR 9 (wA 11 wZ)))) 7 (wA 3 (wR 8 (wR 9 (wA 11 wZ)))))))))))) ⟨40,put 0 (.bp 1000 0) (put 2 (.bp 2 0) (put 3 (.bp 3 0) nix)),put 1000 (rbx T i deep fl a) (put 2 ⟨[.d (.int .i64 0),.d (.st []),.d (.int .i64 0),.d (.int .i64 0),.d (.imm (.slice none 0 0))],100⟩ (put 3 ⟨[.d (.int .i64 (Lg.hd ts).kind),.d (.st (Lg.hd ts).text),.d (.int .i64 (Lg.hd ts).num),.d (.int .i64 (Lg.hd ts).pos)],170⟩ nix)),nix⟩ ?_ ?_
 · simp only[rbx,lE,lA,hA.i0,hA.i1,hA.get,tokD,List.take_length,go_sem]
   repeat' apply And.intro
   all_goals exact zsub (sP3 qza) (sP3 qza) qza
 · rcases hK with⟨rfl,hK⟩|⟨hf,hK⟩
   · unfold Lg.name Lg.take Lg.flt Lg.bnd at hK;simp only[rbx,lE,lA,hA.i0,hA.i1,hA.get,tokD,List.take_length,go_sem]
     refine⟨fun h=>?_,fun h=>?_⟩
     ·rw[if_neg (by simpa using h)]at hK;refine⟨T,i,ts,deep,0,a,20,rfl,rfl,hA,.inl ⟨rfl,?_⟩⟩;simp only[go_sem];exact⟨_,qzb (.rfl _),hK (by decide) (.node 0 [] 0 0 []) i trivial ⟨ts,hA⟩⟩
     · have hk:(Lg.hd ts).kind=1:=by simpa using h
       rw[if_pos hk]at hK
       exact⟨by omega,_,qzb (.rfl _),hK _ (hA.next (by omega))⟩
   · have hf':(fl != 0)=true:=by simpa using hf
     simp only[hf',rbx,lE,lA,hA.i0,hA.i1,hA.get,tokD,List.take_length,go_sem];refine⟨T,i,ts,deep,fl,a,20,rfl,rfl,hA,.inr ⟨hf,?_⟩⟩;simp only[go_sem];exact⟨_,qzb (.rfl _),hK (.node 0 [] 0 0 []) trivial⟩
theorem qwk:OK Tryz.prog 158 (refP (· =0) (fun v:Int=>.d (.int .i64 v)) (Lg.zzr 1) []):=by
 refine fn_OK' qzu (E:=EV) (sp:=spL [(106,zzp)]) qzt qzl (OKs.ok ⟨qkc,trivial⟩) func158 rfl ntmps158 results158 call158 [1000] none ?_;rintro ys bx Kr Kp ⟨T,i,ts,deep,fl,a,rfl,hb,hA,hK⟩
 refine⟨[(1000,rbx T i deep fl a)],rfl,⟨by decide,hb,trivial⟩,by simp,?_⟩
 have hT:=hA.2.2.1;have hl:=hA.lt;simp only[rbx,lE,lA,hA.i0,hA.i1,hA.get,tokD,List.take_length,go_sem];refine qws [] [] (wT 0 (wT 4 (wR 1 (wT 2 (wR 5 (wT 6 (wC 3 (wB 7 (wR 8 (wR 9 (wD 10 11 wZ))) 10 (wA 7 (wR 8 (wR 9 (wA 11 wZ))))) 7 (wB 3 (wR 8 (wR 9 (wD 10 11 wZ))) 10 (wA 3 (wR 8 (wR 9 (wA 11 wZ))))) 10 (wB 3 (wA 7 (wR 8 (wR 9 (wA 11 wZ)))) 7 (wA 3 (wR 8 (wR 9 (wA 11 wZ)))))))))))) ⟨36,put 0 (.bp 1000 0) (put 3 (.bp 3 0) nix),put 1000 (rbx T i deep fl a) (put 3 ⟨[.d (.int .i64 (Lg.hd ts).kind),.d (.st (Lg.hd ts).text),.d (.int .i64 (Lg.hd ts).num),.d (.int .i64 (Lg.hd ts).pos)],170⟩ nix),nix⟩ ?_ ?_
 · simp only[rbx,lE,lA,hA.i0,hA.i1,hA.get,tokD,List.take_length,go_sem]
   repeat' apply And.intro
   all_goals exact zsub (sP2 qza) (sP2 qza) qza
 · rcases hK with⟨rfl,hK⟩|⟨hf,hK⟩
   · unfold Lg.zzr Lg.take Lg.flt Lg.bnd at hK;simp only[rbx,lE,lA,hA.i0,hA.i1,hA.get,tokD,List.take_length,go_sem]
     refine⟨fun h=>?_,fun h=>?_⟩
     ·rw[if_neg (by simpa using h)]at hK;refine⟨T,i,ts,deep,0,a,20,rfl,rfl,hA,.inl ⟨rfl,?_⟩⟩;simp only[go_sem];exact⟨_,qzb (.rfl _),hK (by decide) 0 i rfl ⟨ts,hA⟩⟩
     · have hk:(Lg.hd ts).kind=3:=by simpa using h
       rw[if_pos hk]at hK;simp only[Int.one_mul]at hK
       exact⟨by omega,_,qzb (.rfl _),hK _ (hA.next (by omega))⟩
   · have hf':(fl != 0)=true:=by simpa using hf
     simp only[hf',rbx,lE,lA,hA.i0,hA.i1,hA.get,tokD,List.take_length,go_sem];refine⟨T,i,ts,deep,fl,a,20,rfl,rfl,hA,.inr ⟨hf,?_⟩⟩;simp only[go_sem];exact⟨_,qzb (.rfl _),hK 0 rfl⟩
end Lx
