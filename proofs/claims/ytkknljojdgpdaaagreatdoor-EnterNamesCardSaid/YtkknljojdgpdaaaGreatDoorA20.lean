import Derived.Test.YtkknljojdgpdaaaGreatDoorA19
import Derived.Test.YtkknljojdgpdaaaGreatDoorA18
set_option maxHeartbeats 32000000
set_option linter.unusedSimpArgs false
set_option linter.unusedVariables false
set_option maxRecDepth 20000
namespace Lx
open Go
open Lg (Tok Tree Ty)
open Go.Proofs (Tryz.prog)
open Go.Proofs.Tryz
theorem zxn (xs:List Tree)(i:Nat):(qze xs).take i=qze (xs.take i):=by
 induction xs generalizing i with
 |nil=>simp[qze]
 |cons x xs ih=>cases i with
  |zero=>simp[qze]
  |succ i=>simp[qze,ih]
def typT:Spec:=fun ys bx Kr Kp=>∃t n x0,tabD x0 t/\ys=[.d x0,.d (qzr n)]/\t.length<=4096/\n.kids.length<=4096/\Lg.IsTy n/\
 match Lg.typR t n with
 |.ok x=>Kr (.d (qqk x)) nix none
 |.error (p,c)=>Kp (zko p c) nix
def qku (own:Bool)(FL:List Tree)(fs:List (List UInt8×Int))(i:Nat):Prop:=
 Lg.zqq own FL 0 FL=Lg.sbnd (Lg.zqq own FL i (FL.drop i)) fun r=>.ok (fs++r)
theorem zjd (own:Bool)(FL:List Tree):qku own FL [] 0:=by
 unfold qku;rw[List.drop_zero];cases Lg.zqq own FL 0 FL<;>rfl
theorem qjc {own:Bool}{FL:List Tree}{fs:List (List UInt8×Int)}{i:Nat}(h:qku own FL fs i)(hi:i<FL.length){e:Int×Int}(he:Lg.fieldAt own FL i FL[i]=.error e):Lg.zqq own FL 0 FL=.error e:=by
 unfold qku at h;rw[h,List.drop_eq_getElem_cons hi,Lg.zqq,he];rfl
theorem qkt {own:Bool}{FL:List Tree}{fs:List (List UInt8×Int)}{i:Nat}(h:qku own FL fs i)(hi:i<FL.length){x:List UInt8×Int}(he:Lg.fieldAt own FL i FL[i]=.ok x):qku own FL (fs++[x]) (i+1):=by
 unfold qku at h⊢;rw[h,List.drop_eq_getElem_cons hi,Lg.zqq,he];simp only[Lg.sbnd];cases Lg.zqq own FL (i+1) (FL.drop (i+1))<;>simp
theorem zqp {own:Bool}{FL:List Tree}{fs:List (List UInt8×Int)}{i:Nat}(h:qku own FL fs i)(hi:i=FL.length):Lg.zqq own FL 0 FL=.ok fs:=by
 unfold qku at h;rw[h,hi,List.drop_length,Lg.zqq];simp[Lg.sbnd]
def qj6 (k o:Int)(FL FC:List Tree)(xs:List (Int×Int×Int))(j:Nat):Prop:=
 Lg.zq2 k o FL FC=Lg.sbnd (Lg.zq2 k o FL (FC.drop j)) fun r=>.ok (xs++r)
theorem zzc (k o:Int)(FL FC:List Tree):qj6 k o FL FC [] 0:=by
 unfold qj6;rw[List.drop_zero];cases Lg.zq2 k o FL FC<;>rfl
theorem qkw {k o:Int}{FL FC:List Tree}{xs:List (Int×Int×Int)}{j:Nat}(h:qj6 k o FL FC xs j)(hj:j<FC.length){e:Int×Int}(he:Lg.factR k o FL FC[j]=.error e):Lg.zq2 k o FL FC=.error e:=by
 unfold qj6 at h;rw[h,List.drop_eq_getElem_cons hj,Lg.zq2,he];rfl
theorem qwa {k o:Int}{FL FC:List Tree}{xs ys:List (Int×Int×Int)}{j:Nat}(h:qj6 k o FL FC xs j)(hj:j<FC.length)(he:Lg.factR k o FL FC[j]=.ok ys):qj6 k o FL FC (xs++ys) (j+1):=by
 unfold qj6 at h⊢;rw[h,List.drop_eq_getElem_cons hj,Lg.zq2,he];simp only[Lg.sbnd];cases Lg.zq2 k o FL (FC.drop (j+1))<;>simp
theorem qkx {k o:Int}{FL FC:List Tree}{xs:List (Int×Int×Int)}{j:Nat}(h:qj6 k o FL FC xs j)(hj:j=FC.length):Lg.zq2 k o FL FC=.ok xs:=by
 unfold qj6 at h;rw[h,hj,List.drop_length,Lg.zq2];simp[Lg.sbnd]
theorem zz8 {k o:Int}{FL:List Tree}{n:Tree}{xs:List (Int×Int×Int)}(h:Lg.factR k o FL n=.ok xs):xs.length<=2:=by
 unfold Lg.factR at h
 cases e:Lg.zv9 k o FL n (Lg.kid0 n)with
 |error q=>rw[e]at h;cases h
 |ok a=>
  rw[e]at h
  cases e2:Lg.zv9 k o FL n (Lg.kid1 n)with
  |error q=>rw[Lg.sbnd,e2]at h;cases h
  |ok b=>
   rw[Lg.sbnd,e2,Lg.sbnd]at h;simp only[Except.ok.injEq]at h;rw[<-h];exact qwt ..
theorem typT_OK:OK Tryz.prog 49 typT:=by
 refine fn_OK' qzu (E:=EV) (sp:=spL [(90,.b partsS.up),(92,.b findS.up),(91,.b mustT.up),(93,.b nmdS.up),(94,.b nmbS.up),(95,.b sortB),(96,.b factB)]) qzt qzl (OKs.ok ⟨parts_OK.up,⟨find_OK.up,⟨mustT_OK.up,⟨nmd_OK.up,⟨nmb_OK.up,⟨sortB_OK,⟨factB_OK,trivial⟩⟩⟩⟩⟩⟩⟩) func49 rfl ntmps49 results49 call49 [] none ?_;rintro ys bx Kr Kp ⟨t,n,x0,htab,rfl,ht,hn,⟨⟨s0,r0,hk0,hso⟩,hfc⟩,hK⟩
 refine⟨[],rfl,trivial,by simp,?_⟩
 simp only[go_sem]
 refine⟨n,by rw[qzy],hn,?_⟩
 simp only[go_sem];obtain⟨FL,hFL⟩:∃FL,FL=n.kids.filter Lg.zza:=⟨_,rfl⟩;obtain⟨FC,hFC⟩:∃FC,FC=n.kids.filter Lg.isFct:=⟨_,rfl⟩
 have hFl:FL.length<=4096:=by rw[hFL];exact Nat.le_trans (List.length_filter_le ..) hn
 have hFc:FC.length<=4096:=by rw[hFC];exact Nat.le_trans (List.length_filter_le ..) hn
 have hFcs:∀k∈FC,Lg.IsFc k:=fun k hk=>by
  rw[hFC,List.mem_filter]at hk;exact hfc k hk.1 (by have:=hk.2;unfold Lg.isFct at this;exact eq_of_beq this)
 have e0:Lg.kid0 n=s0:=by unfold Lg.kid0;rw[hk0];rfl
 have hat0:(qze n.kids)[0]?=some (qzr s0):=by rw[hk0];simp[qze]
 have hpos:(0:Int)<n.kids.length:=by rw[hk0];simp
 rw[<-hFL,<-hFC];rw[Lg.typR,<-hFL,<-hFC,e0]at hK;refine qzm [3] [0,1,2,5] (wE 3 4 6 wZ) ?_;simp only[go_sem];refine⟨_,t,x0,rfl,htab,ht,?_⟩;simp only[qzy,go_sem]
 refine⟨_,n,_,rfl,fun h=>?_,fun h=>?_⟩
 rotate_left
 ·rw[if_pos (by have:=lG h;omega)]at hK;exact⟨rfl,trivial,hK⟩
 rw[if_neg (by have:=lF h;omega)]at hK;simp only[qzy,go_sem]
 refine⟨_,n,_,rfl,fun h8=>?_,fun h8=>?_⟩
 rotate_left
 ·rw[if_pos (by have:=lG h8;omega)]at hK;exact⟨rfl,trivial,hK⟩
 rw[if_neg (by have:=lF h8;omega)]at hK;simp only[qzy,go_sem];obtain⟨ow,how⟩:∃ow,ow=(s0.text==Lg.sOwn):=⟨_,rfl⟩;rw[<-how]at hK
 refine qzj (T:={q:List (List UInt8×Int)×Nat×Nat //qku ow FL q.1 q.2.1/\q.2.1<=FL.length/\q.1.length=q.2.1/\tyo q.2.2=73})
  (fun q=>⟨102,put 0 (.d x0) (put 3 (.ep (qzr n) 0) (put 4 (.bp 4 0) (put 5 (.d (.sl 5 (qze FL) false)) (put 6 (.d (.sl 5 (qze FC) false)) (put 7 (.bp 7 0) (put 33 (.d (.sl 5 (qze FL) false)) (put 34 (.d (.int .i64 FL.length)) (put 35 (.d (.int .i64 q.1.2.1)) nix)))))))),put 4 ⟨[.d (.st []),.d (.int .i64 0),.d (.int .i64 0),.d (.imm (.slice none 0 0)),.d (.imm (.slice none 0 0))],69⟩ (put 7 ⟨[.d (.st n.text),.d (.int .i64 0),.d (.int .i64 0),owLV 80 2 (q.1.1.map fldD),.d (.imm (.slice none 0 0))],69⟩ nix),owAr 80 2 q.1.2.2 (q.1.1.map fldD) nix⟩) (fun q=>FL.length-q.1.2.1)
  ⟨([],0,73),zjd _ _,by simp,rfl,rfl⟩ (qzh (sP6 (sP3 qza)) (sP2 qza) qza) ?_
 rintro⟨⟨fs,i,fty⟩,g1,g2,g3,g4⟩;have hrel:qku ow FL fs i:=g1;have hi:i<=FL.length:=g2;have hfi:fs.length=i:=g3;have hft:tyo fty=73:=g4;dsimp only;clear g1 g2 g3 g4
 rcases fs with _|⟨z,fs⟩
 · simp only[List.map_nil,go_sem]
   refine⟨fun h=>?_,fun h=>?_⟩
   · have hlt:i<FL.length:=by have:=lF h;omega
     refine⟨by omega,by omega,?_⟩
     rw[lA,treeDs_at' hlt];simp only[qzy,go_sem];refine qzm [9] [0,1,3,4,7] (wF 2 5 6 8 wZ) ?_;simp only[qzy,zxn,go_sem]
     have htl:(FL.take i).length<=4096:=by rw[List.length_take];omega
     refine⟨by omega,by omega,FL[i].text,FL.take i,false,by rw[lA],htl,?_⟩
     simp only[go_sem]
     refine⟨_,FL[i],_,rfl,fun hx=>?_,fun hx=>?_⟩
     rotate_left
     · have hfe:Lg.fieldAt ow FL i FL[i]=.error (FL[i].pos,30):=by rw[Lg.fieldAt,if_pos (by simpa using hx)]
       rw[qjc hrel hlt hfe]at hK;exact⟨rfl,trivial,hK⟩
     have hnm:¬Lg.namedT (FL.take i) FL[i].text=true:=by simpa using hx
     simp only[go_sem]
     refine⟨fun hk=>?_,fun hk=>?_⟩
     · have hkp:(0:Int)<FL[i].kids.length:=by have:=lF hk;omega
       have hkn:FL[i].kids≠[]:=by intro e;rw[e]at hkp;simp at hkp
       obtain⟨q0,q1⟩:=qkj hkn;refine qzm [] [1,2,3,4,5,6] (wD 0 7 (wT 8 wZ)) ?_;simp only[q0,go_sem];refine⟨q1,_,_,FL,false,rfl,⟨_,_,_,_,_,rfl,rfl,rfl⟩,hFl,?_⟩;simp only[go_sem];have hr:=qq2 (Lg.kid0 FL[i]).text FL
       generalize hq:Lg.numb (Lg.kid0 FL[i]).text FL=q at hr⊢
       have hoe:(s0.text==[111,119,110])=ow:=how.symm
       have hfa:Lg.fieldAt ow FL i FL[i]=if ow&&decide (0<=q)then .ok (FL[i].text,q)else .error (FL[i].pos,32):=by
        rw[Lg.fieldAt,if_neg hnm,if_neg (by cases e:FL[i].kids with|nil=>exact absurd e hkn|cons a b=>simp),hq]
       refine qzm [] [0,1,2,3,4,10] (wA 5 (wT 6 (wF 7 8 9 11 wZ))) ?_;simp only[hat0,hoe,qzy,go_sem];refine⟨hpos,?_⟩
       repeat' first|apply And.intro|intro _
       all_goals
        refine⟨_,FL[i],_,rfl,fun h=>?_,fun h=>?_⟩
       all_goals first
        | (have hc:¬((ow&&decide (0<=q))=true):=by clear hK;simp_all
           rw[if_neg hc]at hfa;rw[qjc hrel hlt hfa]at hK
           exact⟨rfl,trivial,hK⟩)
        |(exact absurd h (by decide))
        | (have hc:(ow&&decide (0<=q))=true:=by clear hK;simp_all
           have hfo:Lg.fieldAt ow FL i FL[i]=.ok (FL[i].text,q):=by rw[hfa,if_pos hc]
           simp only[go_sem]
           repeat' apply And.intro
           all_goals first
            |omega
            |(exact⟨⟨(_++[(FL[i].text,q)],i+1,73),qkt hrel hlt hfo,hlt,by simp only[lC,lB,lH]at hfi⊢;omega,rfl⟩,qzh (sP6 (sP3 qza)) (sP1 (qzd (by simp[put,owLV,fldD]) qza)) (qqf (fun _=>by simp[put,fldD];done) qza),by show FL.length-(i+1)<FL.length-i;omega⟩))
     · have hke:FL[i].kids.isEmpty=true:=by
        have:=lG hk
        cases e:FL[i].kids with
        |nil=>rfl
        |cons a b=>rw[e]at this;simp at this
       have hfo:Lg.fieldAt ow FL i FL[i]=.ok (FL[i].text, -1):=by rw[Lg.fieldAt,if_neg hnm,if_pos hke]
       repeat' apply And.intro
       all_goals first
        |omega
        |(exact⟨⟨(_++[(FL[i].text, -1)],i+1,73),qkt hrel hlt hfo,hlt,by simp only[lC,lB,lH]at hfi⊢;omega,rfl⟩,qzh (sP6 (sP3 qza)) (sP1 (qzd (by simp[put,owLV,fldD]) qza)) (qqf (fun _=>by simp[put,fldD];done) qza),by show FL.length-(i+1)<FL.length-i;omega⟩)
   · have hie:i=FL.length:=by have:=lG h;omega
     rw[zqp hrel hie,Lg.sbnd]at hK;simp only[hat0,go_sem]
     refine⟨hpos,t,s0,FL,FC,x0,false,false,n.text,[],fty,htab,by rw[qzy],rfl,?_,ht,hFl,hFc,hso,?_⟩
     ·first|exact fun h=>absurd rfl h|exact fun _=>rfl
     cases hsr:Lg.sortR t s0 FL FC with
     |error e=>
      obtain⟨p,c⟩:=e;rw[hsr]at hK
      exact fun bx' h=>⟨h _,trivial,hK⟩
     |ok so=>
      obtain⟨k,o⟩:=so;rw[hsr,Lg.sbnd]at hK;simp only at hK;intro fty' hfty';have hft':tyo fty'=73:=hfty'.trans hft;simp only[tyx,go_sem]
      refine qzj (T:={q:List (Int×Int×Int)×Nat×Nat×Nat //qj6 k o FL FC q.1 q.2.1/\q.2.1<=FC.length/\q.1.length<=2*q.2.1/\tyo q.2.2.1=73/\tyo q.2.2.2=71})
       (fun q=>⟨102,put 4 (.bp 4 0) (put 5 (.d (.sl 5 (qze FL) false)) (put 7 (.bp 7 0) (put 91 (.d (.sl 5 (qze FC) false)) (put 92 (.d (.int .i64 FC.length)) (put 93 (.d (.int .i64 q.1.2.1)) nix))))),put 4 ⟨[.d (.st []),.d (.int .i64 0),.d (.int .i64 0),.d (.imm (.slice none 0 0)),.d (.imm (.slice none 0 0))],69⟩ (put 7 ⟨[.d (.st n.text),.d (.int .i64 k),.d (.int .i64 o),owLV 2451 2 [],owLV 2452 3 (q.1.1.map leqD)],69⟩ nix),owAr 2451 2 q.1.2.2.1 [] (owAr 2452 3 q.1.2.2.2 (q.1.1.map leqD) nix)⟩) (fun q=>FC.length-q.1.2.1)
       ⟨([],0,fty',71),zzc _ _ _ _,by simp,by simp,hft',rfl⟩ (qzh (sP6 qza) (sP2 qza) qza) ?_
      rintro⟨⟨xs,j,fty2,gty2⟩,g1,g2,g3,g4,g5⟩;have hrx:qj6 k o FL FC xs j:=g1;have hj:j<=FC.length:=g2;have hxl:xs.length<=2*j:=g3;have hf2:tyo fty2=73:=g4;have hg2:tyo gty2=71:=g5;dsimp only;clear g1 g2 g3 g4 g5
      rcases xs with _|⟨x,xs⟩
      · simp only[List.map_nil,List.map_cons,lE,go_sem]
        refine⟨fun h=>?_,fun h=>?_⟩
        · have hlt:j<FC.length:=by have:=lF h;omega
          refine⟨by omega,by omega,?_⟩
          rw[lA,treeDs_at' hlt];simp only[go_sem]
          refine⟨FC[j],FL,false,n.text,k,o,[],[],fty2,gty2,by rw[qzy],by first|rfl|(simp only[tyx,owLV,lE];rfl),fun h=>absurd rfl h,fun h=>absurd rfl h,hg2,hFl,by simp only[lB,lH,lE]at hxl⊢;omega,hFcs _ (List.getElem_mem hlt),?_⟩
          cases hfr:Lg.factR k o FL FC[j]with
          |error e=>
           obtain⟨p,c⟩:=e;rw[qkw hrx hlt hfr]at hK
           exact fun bx' h=>⟨h _,trivial,hK⟩
          |ok ys=>
           intro fty3 gty3 hf3 hg3;have hyl:=zz8 hfr;have hrx2:=qwa hrx hlt hfr
           rcases ys with _|⟨y,ys⟩
           all_goals
            simp only[tyx,List.map_nil,List.map_cons,List.append_nil,List.nil_append,List.cons_append,lE,go_sem]
            refine⟨⟨by omega,by omega⟩,⟨(_,j+1,fty3,gty3),hrx2,hlt,by simp only[lC,lB,lH]at hxl hyl⊢;omega,hf3.trans hf2,hg3⟩,qzh (sP6 qza) (sP1 (qzd (by simp[put,owLV]) qza)) (qqf (fun hne=>by first|exact absurd rfl hne|(simp[put];done)) (qqf (fun hne=>by first|exact absurd rfl hne|(simp[put];done)) qza)),by show FC.length-(j+1)<FC.length-j;omega⟩
        · have hje:j=FC.length:=by have:=lG h;omega
          rw[qkx hrx hje,Lg.sbnd]at hK;exact⟨_,qzb (.ag (.cons (.rfl _) (.cons (.rfl _) (.cons (.rfl _) (.cons (.nil _ _) (.cons (.nil _ _) .nil)))))),hK⟩
      · simp only[List.map_nil,List.map_cons,lE,go_sem]
        refine⟨fun h=>?_,fun h=>?_⟩
        · have hlt:j<FC.length:=by have:=lF h;omega
          refine⟨by omega,by omega,?_⟩
          rw[lA,treeDs_at' hlt];simp only[go_sem]
          refine⟨FC[j],FL,false,n.text,k,o,[],(leqD x::xs.map leqD),fty2,gty2,by rw[qzy],by first|rfl|(simp only[tyx,owLV,lE];rfl),fun h=>absurd rfl h,fun _=>rfl,hg2,hFl,by simp only[lB,lH,lE]at hxl⊢;omega,hFcs _ (List.getElem_mem hlt),?_⟩
          cases hfr:Lg.factR k o FL FC[j]with
          |error e=>
           obtain⟨p,c⟩:=e;rw[qkw hrx hlt hfr]at hK
           exact fun bx' h=>⟨h _,trivial,hK⟩
          |ok ys=>
           intro fty3 gty3 hf3 hg3;have hyl:=zz8 hfr;have hrx2:=qwa hrx hlt hfr
           rcases ys with _|⟨y,ys⟩
           all_goals
            simp only[tyx,List.map_nil,List.map_cons,List.append_nil,List.nil_append,List.cons_append,lE,go_sem]
            refine⟨⟨by omega,by omega⟩,⟨(_,j+1,fty3,gty3),hrx2,hlt,by simp only[lC,lB,lH]at hxl hyl⊢;omega,hf3.trans hf2,hg3⟩,qzh (sP6 qza) (sP1 (qzd (by simp[put,owLV]) qza)) (qqf (fun hne=>by first|exact absurd rfl hne|(simp[put];done)) (qqf (fun hne=>by first|exact absurd rfl hne|(simp[put];done)) qza)),by show FC.length-(j+1)<FC.length-j;omega⟩
        · have hje:j=FC.length:=by have:=lG h;omega
          rw[qkx hrx hje,Lg.sbnd]at hK;exact⟨_,qzb (.ag (.cons (.rfl _) (.cons (.rfl _) (.cons (.rfl _) (.cons (.nil _ _) (.cons (qks (by simp)) .nil)))))),hK⟩
 · simp only[lB]at hfi;simp only[List.map_cons,lE,go_sem]
   refine⟨fun h=>?_,fun h=>?_⟩
   · have hlt:i<FL.length:=by have:=lF h;omega
     refine⟨by omega,by omega,?_⟩
     rw[lA,treeDs_at' hlt];simp only[qzy,go_sem];refine qzm [9] [0,1,3,4,7] (wF 2 5 6 8 wZ) ?_;simp only[qzy,zxn,go_sem]
     have htl:(FL.take i).length<=4096:=by rw[List.length_take];omega
     refine⟨by omega,by omega,FL[i].text,FL.take i,false,by rw[lA],htl,?_⟩
     simp only[go_sem]
     refine⟨_,FL[i],_,rfl,fun hx=>?_,fun hx=>?_⟩
     rotate_left
     · have hfe:Lg.fieldAt ow FL i FL[i]=.error (FL[i].pos,30):=by rw[Lg.fieldAt,if_pos (by simpa using hx)]
       rw[qjc hrel hlt hfe]at hK;exact⟨rfl,trivial,hK⟩
     have hnm:¬Lg.namedT (FL.take i) FL[i].text=true:=by simpa using hx
     simp only[go_sem]
     refine⟨fun hk=>?_,fun hk=>?_⟩
     · have hkp:(0:Int)<FL[i].kids.length:=by have:=lF hk;omega
       have hkn:FL[i].kids≠[]:=by intro e;rw[e]at hkp;simp at hkp
       obtain⟨q0,q1⟩:=qkj hkn;refine qzm [] [1,2,3,4,5,6] (wD 0 7 (wT 8 wZ)) ?_;simp only[q0,go_sem];refine⟨q1,_,_,FL,false,rfl,⟨_,_,_,_,_,rfl,rfl,rfl⟩,hFl,?_⟩;simp only[go_sem];have hr:=qq2 (Lg.kid0 FL[i]).text FL
       generalize hq:Lg.numb (Lg.kid0 FL[i]).text FL=q at hr⊢
       have hoe:(s0.text==[111,119,110])=ow:=how.symm
       have hfa:Lg.fieldAt ow FL i FL[i]=if ow&&decide (0<=q)then .ok (FL[i].text,q)else .error (FL[i].pos,32):=by
        rw[Lg.fieldAt,if_neg hnm,if_neg (by cases e:FL[i].kids with|nil=>exact absurd e hkn|cons a b=>simp),hq]
       refine qzm [] [0,1,2,3,4,10] (wA 5 (wT 6 (wF 7 8 9 11 wZ))) ?_;simp only[hat0,hoe,qzy,go_sem];refine⟨hpos,?_⟩
       repeat' first|apply And.intro|intro _
       all_goals
        refine⟨_,FL[i],_,rfl,fun h=>?_,fun h=>?_⟩
       all_goals first
        | (have hc:¬((ow&&decide (0<=q))=true):=by clear hK;simp_all
           rw[if_neg hc]at hfa;rw[qjc hrel hlt hfa]at hK
           exact⟨rfl,trivial,hK⟩)
        |(exact absurd h (by decide))
        | (have hc:(ow&&decide (0<=q))=true:=by clear hK;simp_all
           have hfo:Lg.fieldAt ow FL i FL[i]=.ok (FL[i].text,q):=by rw[hfa,if_pos hc]
           simp only[go_sem]
           repeat' apply And.intro
           all_goals first
            |omega
            |exact(qzq fty).trans hft
            |(exact⟨⟨(_++[(FL[i].text,q)],i+1,lnt fty),qkt hrel hlt hfo,hlt,by simp only[lC,lB,lH]at hfi⊢;omega,by rw[qzq];exact hft⟩,qzh (sP6 (sP3 qza)) (sP1 (qzd (by simp[put,owLV,fldD]) qza)) (qqf (fun _=>by simp[put,fldD,lnt];done) qza),by show FL.length-(i+1)<FL.length-i;omega⟩))
     · have hke:FL[i].kids.isEmpty=true:=by
        have:=lG hk
        cases e:FL[i].kids with
        |nil=>rfl
        |cons a b=>rw[e]at this;simp at this
       have hfo:Lg.fieldAt ow FL i FL[i]=.ok (FL[i].text, -1):=by rw[Lg.fieldAt,if_neg hnm,if_pos hke]
       repeat' apply And.intro
       all_goals first
        |omega
        |exact hft
        |(exact⟨⟨(_++[(FL[i].text, -1)],i+1,fty),qkt hrel hlt hfo,hlt,by simp only[lC,lB,lH]at hfi⊢;omega,hft⟩,qzh (sP6 (sP3 qza)) (sP1 (qzd (by simp[put,owLV,fldD]) qza)) (qqf (fun _=>by simp[put,fldD,lnt];done) qza),by show FL.length-(i+1)<FL.length-i;omega⟩)
   · have hie:i=FL.length:=by have:=lG h;omega
     rw[zqp hrel hie,Lg.sbnd]at hK;simp only[hat0,go_sem]
     refine⟨hpos,t,s0,FL,FC,x0,false,false,n.text,(fldD z::fs.map fldD),fty,htab,by rw[qzy],by first|rfl|(simp only[tyx,owLV,lE];rfl),?_,ht,hFl,hFc,hso,?_⟩
     ·first|exact fun h=>absurd rfl h|exact fun _=>rfl
     cases hsr:Lg.sortR t s0 FL FC with
     |error e=>
      obtain⟨p,c⟩:=e;rw[hsr]at hK
      exact fun bx' h=>⟨h _,trivial,hK⟩
     |ok so=>
      obtain⟨k,o⟩:=so;rw[hsr,Lg.sbnd]at hK;simp only at hK;intro fty' hfty';have hft':tyo fty'=73:=hfty'.trans hft;simp only[tyx,lE,go_sem]
      refine qzj (T:={q:List (Int×Int×Int)×Nat×Nat×Nat //qj6 k o FL FC q.1 q.2.1/\q.2.1<=FC.length/\q.1.length<=2*q.2.1/\tyo q.2.2.1=73/\tyo q.2.2.2=71})
       (fun q=>⟨102,put 4 (.bp 4 0) (put 5 (.d (.sl 5 (qze FL) false)) (put 7 (.bp 7 0) (put 91 (.d (.sl 5 (qze FC) false)) (put 92 (.d (.int .i64 FC.length)) (put 93 (.d (.int .i64 q.1.2.1)) nix))))),put 4 ⟨[.d (.st []),.d (.int .i64 0),.d (.int .i64 0),.d (.imm (.slice none 0 0)),.d (.imm (.slice none 0 0))],69⟩ (put 7 ⟨[.d (.st n.text),.d (.int .i64 k),.d (.int .i64 o),owLV 2451 2 (fldD z::fs.map fldD),owLV 2452 3 (q.1.1.map leqD)],69⟩ nix),owAr 2451 2 q.1.2.2.1 (fldD z::fs.map fldD) (owAr 2452 3 q.1.2.2.2 (q.1.1.map leqD) nix)⟩) (fun q=>FC.length-q.1.2.1)
       ⟨([],0,fty',71),zzc _ _ _ _,by simp,by simp,hft',rfl⟩ (qzh (sP6 qza) (sP1 (qzd (by simp[put,owLV]) qza)) (sP1 qza)) ?_
      rintro⟨⟨xs,j,fty2,gty2⟩,g1,g2,g3,g4,g5⟩;have hrx:qj6 k o FL FC xs j:=g1;have hj:j<=FC.length:=g2;have hxl:xs.length<=2*j:=g3;have hf2:tyo fty2=73:=g4;have hg2:tyo gty2=71:=g5;dsimp only;clear g1 g2 g3 g4 g5
      rcases xs with _|⟨x,xs⟩
      · simp only[List.map_nil,List.map_cons,lE,go_sem]
        refine⟨fun h=>?_,fun h=>?_⟩
        · have hlt:j<FC.length:=by have:=lF h;omega
          refine⟨by omega,by omega,?_⟩
          rw[lA,treeDs_at' hlt];simp only[go_sem]
          refine⟨FC[j],FL,false,n.text,k,o,(fldD z::fs.map fldD),[],fty2,gty2,by rw[qzy],by first|rfl|(simp only[tyx,owLV,lE];rfl),fun _=>rfl,fun h=>absurd rfl h,hg2,hFl,by simp only[lB,lH,lE]at hxl⊢;omega,hFcs _ (List.getElem_mem hlt),?_⟩
          cases hfr:Lg.factR k o FL FC[j]with
          |error e=>
           obtain⟨p,c⟩:=e;rw[qkw hrx hlt hfr]at hK
           exact fun bx' h=>⟨h _,trivial,hK⟩
          |ok ys=>
           intro fty3 gty3 hf3 hg3;have hyl:=zz8 hfr;have hrx2:=qwa hrx hlt hfr
           rcases ys with _|⟨y,ys⟩
           all_goals
            simp only[tyx,List.map_nil,List.map_cons,List.append_nil,List.nil_append,List.cons_append,lE,go_sem]
            refine⟨⟨by omega,by omega⟩,⟨(_,j+1,fty3,gty3),hrx2,hlt,by simp only[lC,lB,lH]at hxl hyl⊢;omega,hf3.trans hf2,hg3⟩,qzh (sP6 qza) (sP1 (qzd (by simp[put,owLV]) qza)) (qqf (fun hne=>by first|exact absurd rfl hne|(simp[put];done)) (qqf (fun hne=>by first|exact absurd rfl hne|(simp[put];done)) qza)),by show FC.length-(j+1)<FC.length-j;omega⟩
        · have hje:j=FC.length:=by have:=lG h;omega
          rw[qkx hrx hje,Lg.sbnd]at hK;exact⟨_,qzb (.ag (.cons (.rfl _) (.cons (.rfl _) (.cons (.rfl _) (.cons (qks (by simp)) (.cons (.nil _ _) .nil)))))),hK⟩
      · simp only[List.map_nil,List.map_cons,lE,go_sem]
        refine⟨fun h=>?_,fun h=>?_⟩
        · have hlt:j<FC.length:=by have:=lF h;omega
          refine⟨by omega,by omega,?_⟩
          rw[lA,treeDs_at' hlt];simp only[go_sem]
          refine⟨FC[j],FL,false,n.text,k,o,(fldD z::fs.map fldD),(leqD x::xs.map leqD),fty2,gty2,by rw[qzy],by first|rfl|(simp only[tyx,owLV,lE];rfl),fun _=>rfl,fun _=>rfl,hg2,hFl,by simp only[lB,lH,lE]at hxl⊢;omega,hFcs _ (List.getElem_mem hlt),?_⟩
          cases hfr:Lg.factR k o FL FC[j]with
          |error e=>
           obtain⟨p,c⟩:=e;rw[qkw hrx hlt hfr]at hK
           exact fun bx' h=>⟨h _,trivial,hK⟩
          |ok ys=>
           intro fty3 gty3 hf3 hg3;have hyl:=zz8 hfr;have hrx2:=qwa hrx hlt hfr
           rcases ys with _|⟨y,ys⟩
           all_goals
            simp only[tyx,List.map_nil,List.map_cons,List.append_nil,List.nil_append,List.cons_append,lE,go_sem]
            refine⟨⟨by omega,by omega⟩,⟨(_,j+1,fty3,gty3),hrx2,hlt,by simp only[lC,lB,lH]at hxl hyl⊢;omega,hf3.trans hf2,hg3⟩,qzh (sP6 qza) (sP1 (qzd (by simp[put,owLV]) qza)) (qqf (fun hne=>by first|exact absurd rfl hne|(simp[put];done)) (qqf (fun hne=>by first|exact absurd rfl hne|(simp[put];done)) qza)),by show FC.length-(j+1)<FC.length-j;omega⟩
        · have hje:j=FC.length:=by have:=lG h;omega
          rw[qkx hrx hje,Lg.sbnd]at hK;exact⟨_,qzb (.ag (.cons (.rfl _) (.cons (.rfl _) (.cons (.rfl _) (.cons (qks (by simp)) (.cons (qks (by simp)) .nil)))))),hK⟩
def rboxT (x:D)(a e:Int):Bx:=put 1000 ⟨[.d x],24⟩ (put 1001 ⟨[.d (.int .i64 a)],3⟩ (put 1002 ⟨[.d (.int .i64 e)],40⟩ nix))
def recT:qkm:=fun m bx K=>∃x a e,bx 1000=some ⟨[.d x],24⟩/\bx 1001=some ⟨[.d (.int .i64 a)],3⟩/\bx 1002=some ⟨[.d (.int .i64 e)],40⟩/\
 match m with
 |none=>K (rboxT x a e)
 |some d=>∃p c,d=zko p c/\K (rboxT (.imm (.slice none 0 0)) p c)
theorem recT_OK:OKD Tryz.prog 48 3 recT:=by
 refine zwh qzu (E:=EV) (sp:=spL []) qzt qzl (OKs.ok trivial) func48 rfl ntmps48 results48 rfl rfl rfl call48 ?_;rintro mo bx K ⟨x,a,e,h0,h1,h2,hK⟩
 refine⟨[(1000,⟨[.d x],24⟩),(1001,⟨[.d (.int .i64 a)],3⟩),(1002,⟨[.d (.int .i64 e)],40⟩)],rfl,⟨by decide,h0,by decide,h1,by decide,h2,trivial⟩,by decide,by decide,?_⟩
 refine zvl ?_
 cases mo with
 |none=>
  simp only[go_sem];exact hK
 |some d=>
  obtain⟨p,c,rfl,hK⟩:=hK;simp only[zko,go_sem];refine qz9 (wT 0 (wT 2 (wC 1 (wB 3 (wE 4 5 6 wZ) 4 (wB 3 (wD 5 6 wZ) 5 (wD 3 6 wZ))) 3 (wB 1 (wE 4 5 6 wZ) 4 (wE 1 5 6 wZ)) 4 (wB 1 (wB 3 (wD 5 6 wZ) 5 (wD 3 6 wZ)) 3 (wE 1 5 6 wZ))))) ?_;simp only[go_sem]
  repeat' apply And.intro
  all_goals exact hK
theorem sizes_at:∀(xs:List Tree) {i:Nat} (h:i<xs.length),Lg.size xs[i]<=Lg.qvj xs
 |x::xs,0,_=>by rw[Lg.qvj];exact Nat.le_add_right _ _
 |x::xs,i+1,h=>by
  rw[Lg.qvj];have:=sizes_at xs (i:=i) (by simpa using h);simp only[List.getElem_cons_succ];omega
theorem qkp (n:Tree):Lg.size n=1+Lg.qvj n.kids:=by cases n;rw[Lg.size];rfl
theorem qj4 {n:Tree}{m:Nat}(h:Lg.size n<=m):n.kids.length<=m:=by
 have:=qj2 n.kids;have:=qkp n;omega
theorem kid_le {n:Tree}{m i:Nat}(h:Lg.size n<=m)(hi:i<n.kids.length):Lg.size n.kids[i]<=m:=by
 have h1:=qkp n;have h2:=sizes_at n.kids hi;omega
def typesS:Spec:=fun ys bx Kr _=>∃n,ys=[.d (qzr n)]/\Lg.size n<=4096/\Lg.Tops n/\match Lg.qj9 [] n.kids with
 |.ok t=>Kr (.tup [.d (.sl 5 (t.map qqk) false),.d (.int .i64 0),.d (.int .i64 0)]) nix none
 |.error (a,c)=>Kr (.tup [.d (.sl 5 [] false),.d (.int .i64 a),.d (.int .i64 c)]) nix none
theorem types_OK:OK Tryz.prog 21 typesS:=by
 refine fn_OKD qzu (E:=EP) (sp:=spL [(49,.b typT.up)]) qzt qzl (OKs.ok ⟨typT_OK.up,trivial⟩)
  (cs:=[2,3,4]) (n:=3) (d:=7) recT_OK func21 rfl ntmps21 results21 call21 (.one _ _) rfl rfl rfl rfl rfl rfl rfl rfl ?_
 rintro ys bx Kr Kp ⟨n,rfl,hsz,htop,hK⟩;have hn:n.kids.length<=4096:=qj4 hsz
 refine⟨rfl,by simp,?_⟩
 simp only[go_sem];refine zk2 [2,3,4,1] [(2,.bp 2 0),(3,.bp 3 0),(4,.bp 4 0),(1,.bp 1 0)] ?_ ?_ rfl ?_ ?_ ?_ ?_ ?_ ?_
 ·show 7<26;decide
 · intro p hp;simp only[List.mem_cons,List.not_mem_nil,or_false]at hp
   rcases hp with rfl|rfl|rfl|rfl<;>simp
 ·exact⟨⟨_,rfl,rfl⟩,⟨_,rfl,rfl⟩,⟨_,rfl,rfl⟩,⟨_,rfl,rfl⟩,trivial⟩
 ·decide
 ·rfl
 · intro p hp;simp only[List.mem_cons,List.not_mem_nil,or_false]at hp
   rcases hp with rfl|rfl|rfl|rfl<;>rfl
 ·intro k hk;simpa[kyss,kys]using hk
 simp only[go_sem]
 refine qzj (T:={q:List Ty×Nat×Nat //Lg.qj9 [] n.kids=Lg.qj9 q.1 (n.kids.drop q.2.1)/\q.2.1<=n.kids.length/\q.1.length<=q.2.1/\tyo q.2.2=69})
  (fun q=>⟨26,put 2 (.bp 1000 0) (put 3 (.bp 1001 0) (put 4 (.bp 1002 0) (put 9 (.d (.sl 5 (qze n.kids) false)) (put 10 (.d (.int .i64 n.kids.length)) (put 11 (.d (.int .i64 q.1.2.1)) nix))))),put 1000 ⟨[owLV 23 5 (q.1.1.map qqk)],24⟩ (put 1001 ⟨[.d (.int .i64 0)],3⟩ (put 1002 ⟨[.d (.int .i64 0)],40⟩ nix)),owAr 23 5 q.1.2.2 (q.1.1.map qqk) nix⟩) (fun q=>n.kids.length-q.1.2.1)
  ⟨([],0,69),rfl,by simp,by simp,rfl⟩ (qzh (sP6 qza) (sP3 qza) qza) ?_
 rintro⟨⟨acc,i,ty⟩,g1,g2,g3,g4⟩;have hrel:Lg.qj9 [] n.kids=Lg.qj9 acc (n.kids.drop i):=g1;have hi:i<=n.kids.length:=g2;have hal:acc.length<=i:=g3;have hty:tyo ty=69:=g4;dsimp only;clear g1 g2 g3 g4
 rcases acc with _|⟨z,acc⟩
 · simp only[List.map_nil,go_sem]
   refine⟨fun h=>?_,fun h=>?_⟩
   · have hlt:i<n.kids.length:=by have:=lF h;omega
     rw[List.drop_eq_getElem_cons hlt,Lg.qj9]at hrel
     refine⟨by omega,by omega,?_⟩
     rw[lA,treeDs_at' hlt];simp only[qzy,go_sem]
     refine⟨fun hk=>?_,fun hk=>?_⟩
     · rw[if_pos (eq_of_beq hk)]at hrel;have hkl:=qj4 (kid_le hsz hlt);have hit:=htop _ (List.getElem_mem hlt) (eq_of_beq hk);refine qzm [6] [2] (wB 0 (wG 1 3 4 5 6 wZ) 1 (wB 0 (wF 3 4 5 6 wZ) 3 (wB 0 (wE 4 5 6 wZ) 4 (wE 0 5 6 wZ)))) ?_;simp only[qzy,go_sem]
       repeat' apply And.intro
       all_goals
        refine⟨[],n.kids[i],_,.inr ⟨rfl,rfl⟩,rfl,by simp only[lB,lH];omega,hkl,hit,?_⟩
        cases htr:Lg.typR [] n.kids[i]with
        |error e=>
         obtain⟨p,c⟩:=e;rw[htr,Lg.sbnd]at hrel;rw[hrel]at hK;simp only[go_sem];refine qqw [] [1000] ?_;simp only[go_sem];intro vs hvs _
         match vs,hvs with
         |[v1],_=>
         simp only[go_sem];refine⟨_,_,_,rfl,rfl,rfl,_,_,rfl,?_⟩;simp only[rboxT,go_sem];exact⟨_,.cons (.nil 5 false) (.cons (.rfl _) (.cons (.rfl _) .nil)),hK⟩
        |ok x=>
         rw[htr,Lg.sbnd]at hrel;simp only[go_sem]
         repeat' apply And.intro
         all_goals first
          |omega
          |exact hty
          |(exact⟨⟨([]++[x],i+1,69),hrel,hlt,by simp only[lC,lB,lH]at hal⊢;omega,rfl⟩,qzh (sP6 qza) (qzd (by simp[put,owLV]) (sP2 qza)) (qqf (fun _=>by simp[put,lnt];done) qza),by show n.kids.length-(i+1)<n.kids.length-i;omega⟩)
     · rw[if_neg (by simpa using hk)]at hrel
       exact⟨⟨by omega,by omega⟩,⟨([],i+1,ty),hrel,hlt,by simp only[lB,lH]at hal⊢;omega,hty⟩,qzh (sP6 qza) (qzd (by simp[put,owLV]) (sP2 qza)) (qqf (fun hne=>by first|exact absurd rfl hne|(simp[put];done)) qza),by show n.kids.length-(i+1)<n.kids.length-i;omega⟩
   · have hie:i=n.kids.length:=by have:=lG h;omega
     rw[hie,List.drop_length,Lg.qj9]at hrel;rw[hrel]at hK;refine qqw [] [] ?_;simp only[go_sem];refine⟨_,_,_,rfl,rfl,rfl,?_⟩;simp only[rboxT,go_sem];exact⟨_,.cons (.nil 5 false) (.cons (.rfl _) (.cons (.rfl _) .nil)),hK⟩
 · simp only[lB]at hal;simp only[List.map_cons,lE,go_sem]
   refine⟨fun h=>?_,fun h=>?_⟩
   · have hlt:i<n.kids.length:=by have:=lF h;omega
     rw[List.drop_eq_getElem_cons hlt,Lg.qj9]at hrel
     refine⟨by omega,by omega,?_⟩
     rw[lA,treeDs_at' hlt];simp only[qzy,go_sem]
     refine⟨fun hk=>?_,fun hk=>?_⟩
     · rw[if_pos (eq_of_beq hk)]at hrel;have hkl:=qj4 (kid_le hsz hlt);have hit:=htop _ (List.getElem_mem hlt) (eq_of_beq hk);refine qzm [6] [2] (wB 0 (wG 1 3 4 5 6 wZ) 1 (wB 0 (wF 3 4 5 6 wZ) 3 (wB 0 (wE 4 5 6 wZ) 4 (wE 0 5 6 wZ)))) ?_;simp only[qzy,go_sem]
       repeat' apply And.intro
       all_goals
        refine⟨(z::acc),n.kids[i],_,(.inl ⟨false,rfl⟩),rfl,by simp only[lB,lH];omega,hkl,hit,?_⟩
        cases htr:Lg.typR (z::acc) n.kids[i]with
        |error e=>
         obtain⟨p,c⟩:=e;rw[htr,Lg.sbnd]at hrel;rw[hrel]at hK;simp only[go_sem];refine qqw [] [1000] ?_;simp only[go_sem];intro vs hvs _
         match vs,hvs with
         |[v1],_=>
         simp only[go_sem];refine⟨_,_,_,rfl,rfl,rfl,_,_,rfl,?_⟩;simp only[rboxT,go_sem];exact⟨_,.cons (.nil 5 false) (.cons (.rfl _) (.cons (.rfl _) .nil)),hK⟩
        |ok x=>
         rw[htr,Lg.sbnd]at hrel;simp only[go_sem]
         repeat' apply And.intro
         all_goals first
          |omega
          |exact(qzq ty).trans hty
          |(exact⟨⟨((z::acc)++[x],i+1,lnt ty),hrel,hlt,by simp only[lC,lB,lH]at hal⊢;omega,(by rw[qzq];exact hty)⟩,qzh (sP6 qza) (qzd (by simp[put,owLV]) (sP2 qza)) (qqf (fun _=>by simp[put,lnt];done) qza),by show n.kids.length-(i+1)<n.kids.length-i;omega⟩)
     · rw[if_neg (by simpa using hk)]at hrel
       exact⟨⟨by omega,by omega⟩,⟨((z::acc),i+1,ty),hrel,hlt,by simp only[lB,lH]at hal⊢;omega,hty⟩,qzh (sP6 qza) (qzd (by simp[put,owLV]) (sP2 qza)) (qqf (fun hne=>by first|exact absurd rfl hne|(simp[put];done)) qza),by show n.kids.length-(i+1)<n.kids.length-i;omega⟩
   · have hie:i=n.kids.length:=by have:=lG h;omega
     rw[hie,List.drop_length,Lg.qj9]at hrel;rw[hrel]at hK;refine qqw [23] [] ?_;simp only[go_sem];refine⟨_,_,_,rfl,rfl,rfl,?_⟩;simp only[rboxT,go_sem];exact⟨_,.cons (qks (by simp)) (.cons (.rfl _) (.cons (.rfl _) .nil)),hK⟩
open Lg (Tok Tree Ty Par Sg)
def sigsS:Spec:=fun ys bx Kr Kp=>∃n td T,ys=[.d (qzr n),.d td]/\tabD td T/\T.length<=4096/\Lg.size n<=4096/\Lg.Fns n/\
 match Lg.zvc T n.kids []with
 |.ok gs=>Kr (.tup [.d (.sl 5 (gs.map sigD) false),.d (.int .i64 0),.d (.int .i64 0)]) nix none
 |.error (a,c)=>Kr (.tup [.d (.sl 5 [] false),.d (.int .i64 a),.d (.int .i64 c)]) nix none
theorem sigs_OK:OK Tryz.prog 22 sigsS:=by
 refine fn_OK' qzu (E:=EV) (sp:=spL [(50,.b sigS.up)]) qzt qzl (OKs.ok ⟨sig_OK.up,trivial⟩) func22 rfl ntmps22 results22 call22 [] none ?_;rintro ys bx Kr Kp ⟨n,td,T,rfl,htd,hTl,hsz,hfn,hK⟩
 refine⟨[],rfl,trivial,by simp,?_⟩
 have hnl:n.kids.length<=4096:=qj4 hsz;simp only[go_sem]
 refine qzj (T:={q:List Sg×Nat //Lg.zvc T n.kids []=Lg.zvc T (n.kids.drop q.2) q.1/\q.2<=n.kids.length/\q.1.length<=q.2})
  (fun q=>⟨40,put 1 (.d td) (put 2 (.bp 2 0) (put 7 (owLV 37 5 (q.1.1.map sigD)) (put 14 (.d (.sl 5 (qze n.kids) false)) (put 15 (.d (.int .i64 n.kids.length)) (put 16 (.d (.int .i64 q.1.2)) nix))))),nix,owAr 37 5 48 (q.1.1.map sigD) nix⟩) (fun q=>n.kids.length-q.1.2)
  ⟨([],0),rfl,by simp,by simp⟩ (qzh (sP6 qza) qza qza) ?_
 rintro⟨⟨gs,i⟩,g1,g2,g3⟩;have hrel:Lg.zvc T n.kids []=Lg.zvc T (n.kids.drop i) gs:=g1;have hi:i<=n.kids.length:=g2;have hgl:gs.length<=i:=g3;dsimp only;clear g1 g2 g3;obtain⟨l,hpl⟩:∃l,l=gs:=⟨_,rfl⟩
 rcases gs with _|⟨z,gs⟩
 all_goals
  have hgl2:=hgl;simp only[lB,lH]at hgl2;simp only[List.map_nil,List.map_cons,go_sem]
  refine⟨fun h=>?_,fun h=>?_⟩
  · have hlt:i<n.kids.length:=by have:=lF h;omega
    refine⟨by omega,by omega,?_⟩
    rw[lA,treeDs_at' hlt];rw[List.drop_eq_getElem_cons hlt,Lg.zvc]at hrel;have hk4:=qj4 (kid_le hsz hlt);have hfk:=hfn _ (List.getElem_mem hlt)
    generalize n.kids[i]=k at hrel hk4 hfk⊢
    simp only[go_sem]
    refine⟨fun h6=>?_,fun h6=>?_⟩
    · have h6:¬k.kind=6:=by simpa using h6
      rw[if_neg h6]at hrel
      refine⟨⟨by omega,by omega⟩,?_⟩
      exact⟨⟨(l,i+1),by rw[hpl];exact hrel,hlt,by show l.length<=i+1;rw[hpl];exact Nat.le_succ_of_le hgl⟩,qzh (sP2 (qzd (by simp[put,owLV,hpl]) (sP3 qza))) qza (qqf (fun hne=>by first|(simp[put,hpl];done)|exact absurd (by simp[hpl]) hne) qza),by show n.kids.length-(i+1)<n.kids.length-i;omega⟩
    · have h6:k.kind=6:=by simpa using h6
      rw[if_pos h6]at hrel
      refine⟨k,td,T,by rw[qzy],htd,hTl,hk4,hfk h6,?_⟩
      cases hs:Lg.sigR T k with
      |error e=>
       obtain⟨a,c⟩:=e;rw[hs,Lg.sbnd]at hrel;rw[hrel]at hK;simp only[zsD,go_sem]
       refine⟨fun _=>?_,fun hc=>absurd (by simpa using hc) (Lg.sigR_ne hs)⟩
       exact⟨_,.cons (.nil _ _) (.cons (.rfl _) (qzb (.rfl _))),hK⟩
      |ok g=>
       rw[hs,Lg.sbnd]at hrel;simp only[sigD,go_sem]
       repeat' apply And.intro
       all_goals first
        |omega
        |exact⟨⟨(l++[g],i+1),by rw[hpl];exact hrel,hlt,by show(l++[g]).length<=i+1;rw[hpl,lC];simp only[lB,lH];omega⟩,qzh (sP2 (qzd (by simp[put,owLV,hpl]) (sP3 qza))) qza (qqf (fun _=>by simp[put,hpl,sigD]) qza),by show n.kids.length-(i+1)<n.kids.length-i;omega⟩
  · have hie:i=n.kids.length:=by have:=lG h;omega
    rw[hie,List.drop_length,Lg.zvc]at hrel;rw[hrel]at hK
    first
     |exact⟨_,.cons (.nil _ _) (.cons (.rfl _) (qzb (.rfl _))),hK⟩
     |exact⟨_,.cons (.rfl _) (.cons (.rfl _) (qzb (.rfl _))),hK⟩
def rfindT:Spec:=fun ys bx Kr Kp=>∃s l x,ys=[.d x,.d (.st s)]/\tabD x l/\l.length<=4096/\Kr (.d (.int .i64 (Lg.qkv l s))) nix none
theorem rfindT_OK:OK Tryz.prog 112 rfindT:=by
 refine fn_OK' qzu (E:=EV) (sp:=spL []) qzt qzl (OKs.ok trivial) func112 rfl ntmps112 results112 call112 [] none ?_;rintro ys bx Kr Kp ⟨s,l,x0,rfl,htab,hl,hK⟩
 refine⟨[],rfl,trivial,by simp,?_⟩
 unfold Lg.qkv at hK
 rcases htab with⟨fl,rfl⟩|⟨rfl,rfl⟩
 rotate_left
 · simp only[go_sem];refine qzj (T:=Unit) (fun _=>⟨20,put 0 (.d (.imm (.slice none 0 0))) (put 5 (.d (.int .i64 0)) nix),nix,nix⟩) (fun _=>0) () (qzh (sP2 qza) qza qza) ?_;rintro⟨⟩;simp only[go_sem]
   exact⟨fun h=>absurd h (by simp),fun _=>⟨_,qzb (.rfl _),hK⟩⟩
 simp only[go_sem]
 refine qzj (T:={i:Nat //i<=l.length/\Lg.idxF (fun x:Ty=>x.name==s) l 0=Lg.idxF (fun x:Ty=>x.name==s) (l.drop i) i}) (fun i=>⟨20,put 0 (.d (.sl 5 (l.map qqk) fl)) (put 1 (.d (.st s)) (put 5 (.d (.int .i64 i.1)) nix)),nix,nix⟩) (fun i=>l.length-i.1) ⟨0,by omega,rfl⟩
  (qzh (sP3 qza) qza qza) ?_
 rintro⟨i,hi,hx⟩;simp only[lE,go_sem]
 refine⟨fun h=>?_,fun h=>?_⟩
 · have hlt:i<l.length:=by have:=lF h;omega
   rw[List.drop_eq_getElem_cons hlt,Lg.idxF]at hx
   refine⟨by omega,by omega,?_⟩
   rw[lA,qvh hlt];simp only[ty_ag,go_sem]
   refine⟨fun h=>?_,fun h=>?_⟩
   ·rw[if_pos h]at hx;rw[hx]at hK;exact⟨_,qzb (.rfl _),hK⟩
   · rw[if_neg (by rw[h];decide)]at hx
     exact⟨⟨by omega,by omega⟩,⟨i+1,hlt,hx⟩,qzh (sP3 qza) qza qza,by show l.length-(i+1)<l.length-i;omega⟩
 · have:i=l.length:=by have:=lG h;omega
   subst this;rw[List.drop_length,Lg.idxF]at hx;rw[hx]at hK;exact⟨_,qzb (.rfl _),hK⟩
def rnumS:Spec:=fun ys bx Kr Kp=>∃s l fl,ys=[.d (.sl 5 (qze l) fl),.d (.st s)]/\l.length<=4096/\Kr (.d (.int .i64 (Lg.numb s l))) nix none
theorem rnum_OK:OK Tryz.prog 113 rnumS:=by
 refine fn_OK' qzu (E:=EV) (sp:=spL []) qzt qzl (OKs.ok trivial) func113 rfl ntmps113 results113 call113 [] none ?_;rintro ys bx Kr Kp ⟨s,l,fl,rfl,hl,hK⟩
 refine⟨[],rfl,trivial,by simp,?_⟩
 unfold Lg.numb at hK;simp only[go_sem]
 refine qzj (T:={i:Nat //i<=l.length/\Lg.idxF (fun n:Tree=>n.text==s&&n.kids.isEmpty) l 0=Lg.idxF (fun n:Tree=>n.text==s&&n.kids.isEmpty) (l.drop i) i}) (fun i=>⟨29,put 0 (.d (.sl 5 (qze l) fl)) (put 1 (.d (.st s)) (put 5 (.d (.int .i64 i.1)) nix)),nix,nix⟩) (fun i=>l.length-i.1) ⟨0,by omega,rfl⟩
  (qzh (sP3 qza) qza qza) ?_
 rintro⟨i,hi,hx⟩;simp only[go_sem]
 refine⟨fun h=>?_,fun h=>?_⟩
 · have hlt:i<l.length:=by have:=lF h;omega
   rw[List.drop_eq_getElem_cons hlt,Lg.idxF]at hx
   refine⟨by omega,by omega,?_⟩
   rw[lA,treeDs_at' hlt];simp only[qzy,go_sem]
   have e0:((l[i].kids.length:Int)==0)=l[i].kids.isEmpty:=by cases l[i].kids<;>simp;omega
   refine⟨fun h1=>?_,fun h1=>?_⟩
   · refine⟨by omega,by omega,?_⟩
     rw[lA,treeDs_at' hlt];simp only[qzy,go_sem];rw[e0]
     refine⟨fun h2=>?_,fun h2=>?_⟩
     ·rw[if_pos (by rw[h1,h2];rfl)]at hx;rw[hx]at hK;exact⟨_,qzb (.rfl _),hK⟩
     · rw[if_neg (by rw[h1,h2];decide)]at hx
       exact⟨⟨by omega,by omega⟩,⟨i+1,hlt,hx⟩,qzh (sP3 qza) qza qza,by show l.length-(i+1)<l.length-i;omega⟩
   · rw[h1,Bool.false_and,if_neg (by decide)]at hx
     exact⟨⟨by omega,by omega⟩,⟨i+1,hlt,hx⟩,qzh (sP3 qza) qza qza,by show l.length-(i+1)<l.length-i;omega⟩
 · have:i=l.length:=by have:=lG h;omega
   subst this;rw[List.drop_length,Lg.idxF]at hx;rw[hx]at hK;exact⟨_,qzb (.rfl _),hK⟩
def rkidsS:Spec:=fun ys bx Kr Kp=>∃n k,ys=[.d (qzr n),.d (.int .i64 k)]/\n.kids.length<=4096/\Kr (.d (.sl 5 (qze (n.kids.filter fun x=>x.kind==k)) false)) nix none
theorem rkids_OK:OK Tryz.prog 111 rkidsS:=by
 refine fn_OK' qzu (E:=EV) (sp:=spL []) qzt qzl (OKs.ok trivial) func111 rfl ntmps111 results111 call111 [] none ?_;rintro ys bx Kr Kp ⟨n,k,rfl,hl,hK⟩
 refine⟨[],rfl,trivial,by simp,?_⟩
 simp only[go_sem]
 refine qzj (T:={t:List Tree×Nat //t.1=(n.kids.take t.2).filter (fun x=>x.kind==k)/\t.2<=n.kids.length})
  (fun t=>⟨31,put 1 (.d (.int .i64 k)) (put 2 (.bp 2 0) (put 5 (owLV 29 5 (qze t.1.1)) (put 6 (.d (.int .i64 t.1.2)) nix))),put 2 ⟨[.d (.int .i64 n.kind),.d (.st n.text),.d (.int .i64 n.num),.d (.int .i64 n.pos),.d (.sl 5 (qze n.kids) false)],100⟩ nix,owAr 29 5 100 (qze t.1.1) nix⟩) (fun t=>n.kids.length-t.1.2) ⟨([],0),rfl,by simp⟩
  (qzh (sP4 qza) (sP1 qza) qza) ?_
 rintro⟨⟨xs,i⟩,g1,g2⟩;have ha:xs=(n.kids.take i).filter (fun x=>x.kind==k):=g1;have hi:i<=n.kids.length:=g2
 have hla:xs.length<=i:=by rw[ha];exact Nat.le_trans (List.length_filter_le ..) (by rw[List.length_take];omega)
 dsimp only;clear g1 g2;obtain⟨l,hpl⟩:∃l,l=xs:=⟨_,rfl⟩
 rcases xs with _|⟨z,xs⟩
 all_goals
  have hla2:=hla;simp only[lB,lH]at hla2;simp only[qze,go_sem]
  refine⟨fun h=>?_,fun h=>?_⟩
  · have hlt:i<n.kids.length:=by have:=lF h;omega
    have e1:=zz5 (p:=fun x:Tree=>x.kind==k) hlt;rw[<-ha]at e1
    refine⟨by omega,by omega,?_⟩
    rw[lA,treeDs_at' hlt];simp only[qzy,qze,go_sem]
    refine⟨fun h1=>⟨by omega,by omega,?_⟩,fun h1=>?_⟩
    · rw[if_pos h1]at e1;rw[lA,treeDs_at' hlt];simp only[qzy,qze,go_sem]
      repeat' apply And.intro
      all_goals first
       |omega
       |exact⟨⟨(l++[n.kids[i]],i+1),by rw[hpl];exact e1.symm,hlt⟩,qzh (sP2 (qzd (by simp[put,qzp,qze,owLV,qzn,hpl]) (sP1 qza))) (sP1 qza) (qqf (fun hne=>by simp[put,qzp,qze,hpl]) qza),by show n.kids.length-(i+1)<n.kids.length-i;omega⟩
    · rw[h1,if_neg (by decide),List.append_nil]at e1
      refine⟨⟨by omega,by omega⟩,?_⟩
      exact⟨⟨(l,i+1),by rw[hpl];exact e1.symm,hlt⟩,qzh (sP2 (qzd (by simp[put,qze,owLV,qzn,hpl]) (sP1 qza))) (sP1 qza) (qqf (fun hne=>by first|(simp[put,qze,hpl];done)|exact absurd (by simp[hpl,qze]) hne) qza),by show n.kids.length-(i+1)<n.kids.length-i;omega⟩
  · have h0:i=n.kids.length:=by have:=lG h;omega
    subst h0;rw[List.take_length]at ha;rw[<-ha]at hK
    first
     |exact⟨_,qzb (.nil 5 false),hK⟩
     |exact⟨_,qzb (qks (by simp[qze])),hK⟩
theorem rfacts_OK:OK Tryz.prog 114 factsS:=by
 refine fn_OK' qzu (E:=EVw) (sp:=spL []) qzt qzl (OKs.ok trivial) func114 rfl ntmps114 results114 call114 [] none ?_;rintro ys bx Kr Kp ⟨op,a,b,k,l,rfl,hK⟩
 refine⟨[],rfl,trivial,by simp,?_⟩
 have e:∀{x y:Bs},x≠y->(x==y)=false:=fun h=>by simpa using h
 by_cases h1:op=[60]
 ·rw[h1,Lg.cmpF,if_pos (show([60]:Bs)=Lg.sLt from rfl)]at hK;rw[h1];have q0:(([60]:Bs)==[60])=true:=rfl;have q1:(([60]:Bs)==[60,61])=false:=rfl;have q2:(([60]:Bs)==[61,61])=false:=rfl;simp only[q0,q1,q2,go_sem];exact⟨_,qzb (.rfl _),hK⟩
 by_cases h2:op=[60,61]
 ·rw[h2,Lg.cmpF,if_neg (show¬([60,61]:Bs)=Lg.sLt by decide),if_pos (show([60,61]:Bs)=Lg.sLe from rfl)]at hK;rw[h2];have q0:(([60,61]:Bs)==[60])=false:=rfl;have q1:(([60,61]:Bs)==[60,61])=true:=rfl;have q2:(([60,61]:Bs)==[61,61])=false:=rfl;simp only[q0,q1,q2,go_sem];exact⟨_,qzb (.rfl _),hK⟩
 by_cases h3:op=[61,61]
 ·rw[h3,Lg.cmpF,if_neg (show¬([61,61]:Bs)=Lg.sLt by decide),if_neg (show¬([61,61]:Bs)=Lg.sLe by decide),if_pos (show([61,61]:Bs)=Lg.sEq2 from rfl)]at hK;rw[h3];have q0:(([61,61]:Bs)==[60])=false:=rfl;have q1:(([61,61]:Bs)==[60,61])=false:=rfl;have q2:(([61,61]:Bs)==[61,61])=true:=rfl;simp only[q0,q1,q2,go_sem];exact⟨_,qzb (.rfl _),hK⟩
 rw[Lg.cmpF,if_neg (show¬op=Lg.sLt from h1),if_neg (show¬op=Lg.sLe from h2),if_neg (show¬op=Lg.sEq2 from h3)]at hK;simp only[e h1,e h2,e h3,go_sem];exact⟨_,qzb le_nils,hK⟩
end Lx
