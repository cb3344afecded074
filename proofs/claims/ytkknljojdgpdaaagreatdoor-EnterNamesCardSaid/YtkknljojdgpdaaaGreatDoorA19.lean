import Derived.Test.YtkknljojdgpdaaaGreatDoorA18
set_option maxHeartbeats 32000000
set_option linter.unusedSimpArgs false
set_option linter.unusedVariables false
set_option maxRecDepth 20000
namespace Lx
open Go
open Lg (Tok Tree Ty)
open Go.Proofs (Tryz.prog)
open Go.Proofs.Tryz
theorem wrap_in {n:Int}(h: -9223372036854775808<=n/\n<=9223372036854775807):IntKind.i64.wrap n=n:=by
 exact inr_wrap (k:=.i64) h
theorem qwe {op:List UInt8}{a b k l:Int}(hk:Lg.Bd k)(hl:Lg.Bd l):Lg.cmpF IntKind.i64.wrap op a b k l=Lg.cmpF id op a b k l:=by
 obtain⟨h1,h2⟩:=hk;obtain⟨h3,h4⟩:=hl;unfold Lg.cmpF;rw[wrap_in (n:=l-k) (by omega),wrap_in (n:=l-k-1) (by omega),wrap_in (n:=k-l) (by omega)];rfl
theorem qwt (w:Int->Int)(op:List UInt8)(a b k l:Int):(Lg.cmpF w op a b k l).length<=2:=by
 unfold Lg.cmpF;split
 ·simp
 · split
   ·simp
   ·split<;>simp
theorem qq2 (s:List UInt8)(l:List Tree): -1<=Lg.numb s l/\Lg.numb s l<l.length:=by
 unfold Lg.numb
 rcases Lg.qjx (fun n:Tree=>n.text==s&&n.kids.isEmpty) l 0 with h|⟨h1,h2⟩
 ·rw[h];exact⟨by omega,by omega⟩
 ·exact⟨by omega,by omega⟩
def zjv (k o:Int)(fl:List Tree)(n:Tree)(i:Nat)(v w:Int):Prop:=
 (i=0/\v=0/\w=0)\/(i=1/\Lg.zv9 k o fl n (Lg.kid0 n)=.ok v/\w=0)\/(i=2/\Lg.zv9 k o fl n (Lg.kid0 n)=.ok v/\Lg.zv9 k o fl n (Lg.kid1 n)=.ok w)
def factB:Spec3:=fun ys bx ar Kr Kp=>∃n fl f1 nm k o fs gs fty gty,ys=[.bp 1000 0,.d (qzr n),.d (.sl 5 (qze fl) f1)]/\bx 1000=some (tyx nm k o fs gs)/\
 (fs≠[]->ar 66003=some (2,fty,fs))/\(gs≠[]->ar 66004=some (3,gty,gs))/\tyo gty=71/\fl.length<=4096/\gs.length<=100000/\Lg.IsFc n/\
 match Lg.factR k o fl n with
 |.ok xs=>∀fty' gty',tyo fty'=tyo fty->tyo gty'=71->Kr (.tup []) (put 1000 (tyx nm k o fs (gs++xs.map leqD)) nix) (owAr 66003 2 fty' fs (owAr 66004 3 gty' (gs++xs.map leqD) nix))
 |.error (p,c)=>∀bx',(∀ks,N3 bx' 0 ks=[])->Kp (zko p c) bx'
theorem factB_OK:OK3 Tryz.prog 96 factB:=by
 refine fn_OK3 qzu (E:=EV) (sp:=spL [(94,.b nmbS.up),(91,.b mustT.up),(135,.b factsS.up)]) qzt qzl (OKs.ok ⟨nmb_OK.up,⟨mustT_OK.up,⟨facts_OK.up,trivial⟩⟩⟩) func96 rfl ntmps96 results96 call96 [1000] qwu ?_;rintro ys bx ar Kr Kp ⟨n,fl,f1,nm,k,o,fs,gs,fty,gty,rfl,hb,har,hag,hgt,hfl,hgs,⟨ka,kb,hkids,hba,hbb⟩,hK⟩;obtain⟨A,hA1,hA2⟩:=ow_A har;obtain⟨B,hB1,hB2⟩:=ow_A hag
 refine⟨[(1000,tyx nm k o fs gs)],A++(B++[]),rfl,⟨by decide,hb,trivial⟩,zv2 hA1 (zv2 hB1 trivial),by simp,?_⟩
 rw[hA2,hB2];clear hA1 hA2 hB1 hB2 A B har hag hb
 have e0:Lg.kid0 n=ka:=by unfold Lg.kid0;rw[hkids];rfl
 have e1:Lg.kid1 n=kb:=by unfold Lg.kid1;rw[hkids];rfl
 have hlen:n.kids.length=2:=by rw[hkids];rfl
 have hat0:(qze n.kids)[0]?=some (qzr ka):=by rw[hkids];simp[qze]
 have hat1:(qze n.kids)[1]?=some (qzr kb):=by rw[hkids];simp[qze]
 rcases fs with _|⟨z,fs⟩<;>rcases gs with _|⟨y,gs⟩
 · simp only[tyx,hlen,go_sem]
   refine qx4 [4] (T:={q:Nat×Int×Int×Nat×Nat //zjv k o fl n q.1 q.2.1 q.2.2.1/\tyo q.2.2.2.1=tyo fty/\tyo q.2.2.2.2=71})
    (fun q=>⟨85,put 0 (.bp 1000 0) (put 2 (.d (.sl 5 (qze fl) f1)) (put 4 (.ep (qzr n) 0) (put 6 (.bp 6 0) (put 11 (.d (.sl 5 (qze n.kids) false)) (put 12 (.d (.int .i64 2)) (put 13 (.d (.int .i64 q.1.1)) nix)))))),put 6 ⟨[.d (.int .i64 q.1.2.1),.d (.int .i64 q.1.2.2.1)],251⟩ (put 1000 (tyx nm k o [] []) nix),owAr 66003 2 q.1.2.2.2.1 [] (owAr 66004 3 q.1.2.2.2.2 [] nix)⟩) (fun q=>2-q.1.1) ⟨(0,0,0,fty,gty),.inl ⟨rfl,rfl,rfl⟩,rfl,hgt⟩ ?_ ?_
   ·simp only[qzy,go_sem];exact qzh (sP6 (sP1 qza)) (sP2 qza) qza
   rintro⟨⟨i,v,w,fty',gty'⟩,g1,g2,g3⟩;have hv:zjv k o fl n i v w:=g1;have hf:tyo fty'=tyo fty:=g2;have hg:tyo gty'=71:=g3;dsimp only;clear g1 g2 g3
   rcases hv with⟨rfl,rfl,rfl⟩|⟨rfl,h1,rfl⟩|⟨rfl,h1,h2⟩
   · simp only[tyx,hlen,hat0,decide_true,bne_self_eq_false,beq_self_eq_true,Bool.false_eq_true,Bool.true_eq_false,false_implies,true_implies,true_and,and_true,eq_self,go_sem]
     refine⟨fun h=>?_,fun h=>?_⟩
     · first
        |exact⟨⟨(1,0,0,fty',gty'),.inr (.inl ⟨rfl,by rw[e0,Lg.zv9,if_pos (eq_of_beq h)],rfl⟩),hf,hg⟩,qzh (sP6 (sP1 qza)) (sP2 qza) (by first|exact qza|exact sP1 qza|exact sP2 qza),by show 2-1<2-0;omega⟩
        |exact⟨⟨(1,0,0,fty',lnt gty'),.inr (.inl ⟨rfl,by rw[e0,Lg.zv9,if_pos (eq_of_beq h)],rfl⟩),hf,(by rw[qzq];exact hg)⟩,qzh (sP6 (sP1 qza)) (sP2 qza) (by first|exact qza|exact sP1 qza|exact sP2 qza),by show 2-1<2-0;omega⟩
        |exact⟨⟨(1,0,0,lnt fty',gty'),.inr (.inl ⟨rfl,by rw[e0,Lg.zv9,if_pos (eq_of_beq h)],rfl⟩),(by rw[qzq];exact hf),hg⟩,qzh (sP6 (sP1 qza)) (sP2 qza) (by first|exact qza|exact sP1 qza|exact sP2 qza),by show 2-1<2-0;omega⟩
        |exact⟨⟨(1,0,0,lnt fty',lnt gty'),.inr (.inl ⟨rfl,by rw[e0,Lg.zv9,if_pos (eq_of_beq h)],rfl⟩),(by rw[qzq];exact hf),(by rw[qzq];exact hg)⟩,qzh (sP6 (sP1 qza)) (sP2 qza) (by first|exact qza|exact sP1 qza|exact sP2 qza),by show 2-1<2-0;omega⟩
     · refine qzm [8] [0,1,3,4,5] (wD 2 6 (wT 7 wZ)) ?_;simp only[go_sem];refine⟨_,_,fl,f1,rfl,⟨_,_,_,_,_,rfl,rfl,rfl⟩,hfl,?_⟩;simp only[go_sem];refine qzm [] [0,25] (wA 1 (wT 2 (wJ 3 4 5 6 7 8 9 10 (wG 11 12 13 14 15 (wB 16 (wJ 17 18 19 20 21 22 23 24 (wA 26 wZ)) 17 (wB 16 (wJ 18 19 20 21 22 23 24 26 wZ) 18 (wB 16 (wI 19 20 21 22 23 24 26 wZ) 19 (wB 16 (wH 20 21 22 23 24 26 wZ) 20 (wH 16 21 22 23 24 26 wZ))))))))) ?_;simp only[qzy,go_sem]
       have hne:¬ka.text=[]:=by simpa using h
       have hr:=qq2 ka.text fl
       generalize hq:Lg.numb ka.text fl=q at hr⊢
       repeat' first|apply And.intro|intro _
       all_goals
        refine⟨_,n,_,rfl,fun h=>?_,fun h=>?_⟩
       all_goals first
        | (have hc:0<=q/\¬((k=2\/k=3)/\q=o):=by clear hK;simp_all<;>omega
           have he:Lg.zv9 k o fl n (Lg.kid0 n)=.ok (q+1):=by rw[e0,Lg.zv9,if_neg hne,hq,if_pos hc]
           simp only[go_sem]
           first
            |exact⟨⟨by omega,by omega⟩,⟨(1,q+1,0,fty',gty'),.inr (.inl ⟨rfl,he,rfl⟩),hf,hg⟩,qzh (sP6 (sP1 qza)) (sP2 qza) (by first|exact qza|exact sP1 qza|exact sP2 qza),by show 2-1<2-0;omega⟩
            |exact⟨⟨by omega,by omega⟩,⟨(1,q+1,0,fty',lnt gty'),.inr (.inl ⟨rfl,he,rfl⟩),hf,(by rw[qzq];exact hg)⟩,qzh (sP6 (sP1 qza)) (sP2 qza) (by first|exact qza|exact sP1 qza|exact sP2 qza),by show 2-1<2-0;omega⟩
            |exact⟨⟨by omega,by omega⟩,⟨(1,q+1,0,lnt fty',gty'),.inr (.inl ⟨rfl,he,rfl⟩),(by rw[qzq];exact hf),hg⟩,qzh (sP6 (sP1 qza)) (sP2 qza) (by first|exact qza|exact sP1 qza|exact sP2 qza),by show 2-1<2-0;omega⟩
            |exact⟨⟨by omega,by omega⟩,⟨(1,q+1,0,lnt fty',lnt gty'),.inr (.inl ⟨rfl,he,rfl⟩),(by rw[qzq];exact hf),(by rw[qzq];exact hg)⟩,qzh (sP6 (sP1 qza)) (sP2 qza) (by first|exact qza|exact sP1 qza|exact sP2 qza),by show 2-1<2-0;omega⟩)
        | (have hc:¬(0<=q/\¬((k=2\/k=3)/\q=o)):=by clear hK;simp_all<;>omega
           have he:Lg.factR k o fl n=.error (n.pos,33):=by rw[Lg.factR,e0,Lg.zv9,if_neg hne,hq,if_neg hc];rfl
           rw[he]at hK
           exact⟨rfl,hK _ (qxt _ _ · _)⟩)
   · simp only[tyx,hlen,hat1,decide_true,bne_self_eq_false,beq_self_eq_true,Bool.false_eq_true,Bool.true_eq_false,false_implies,true_implies,true_and,and_true,eq_self,go_sem]
     refine⟨fun h=>?_,fun h=>?_⟩
     · first
        |exact⟨⟨(2,v,0,fty',gty'),.inr (.inr ⟨rfl,h1,by rw[e1,Lg.zv9,if_pos (eq_of_beq h)]⟩),hf,hg⟩,qzh (sP6 (sP1 qza)) (sP2 qza) (by first|exact qza|exact sP1 qza|exact sP2 qza),by show 2-2<2-1;omega⟩
        |exact⟨⟨(2,v,0,fty',lnt gty'),.inr (.inr ⟨rfl,h1,by rw[e1,Lg.zv9,if_pos (eq_of_beq h)]⟩),hf,(by rw[qzq];exact hg)⟩,qzh (sP6 (sP1 qza)) (sP2 qza) (by first|exact qza|exact sP1 qza|exact sP2 qza),by show 2-2<2-1;omega⟩
        |exact⟨⟨(2,v,0,lnt fty',gty'),.inr (.inr ⟨rfl,h1,by rw[e1,Lg.zv9,if_pos (eq_of_beq h)]⟩),(by rw[qzq];exact hf),hg⟩,qzh (sP6 (sP1 qza)) (sP2 qza) (by first|exact qza|exact sP1 qza|exact sP2 qza),by show 2-2<2-1;omega⟩
        |exact⟨⟨(2,v,0,lnt fty',lnt gty'),.inr (.inr ⟨rfl,h1,by rw[e1,Lg.zv9,if_pos (eq_of_beq h)]⟩),(by rw[qzq];exact hf),(by rw[qzq];exact hg)⟩,qzh (sP6 (sP1 qza)) (sP2 qza) (by first|exact qza|exact sP1 qza|exact sP2 qza),by show 2-2<2-1;omega⟩
     · refine qzm [8] [0,1,3,4,5] (wD 2 6 (wT 7 wZ)) ?_;simp only[go_sem];refine⟨_,_,fl,f1,rfl,⟨_,_,_,_,_,rfl,rfl,rfl⟩,hfl,?_⟩;simp only[go_sem];refine qzm [] [0,25] (wA 1 (wT 2 (wJ 3 4 5 6 7 8 9 10 (wG 11 12 13 14 15 (wB 16 (wJ 17 18 19 20 21 22 23 24 (wA 26 wZ)) 17 (wB 16 (wJ 18 19 20 21 22 23 24 26 wZ) 18 (wB 16 (wI 19 20 21 22 23 24 26 wZ) 19 (wB 16 (wH 20 21 22 23 24 26 wZ) 20 (wH 16 21 22 23 24 26 wZ))))))))) ?_;simp only[qzy,go_sem]
       have hne:¬kb.text=[]:=by simpa using h
       have hr:=qq2 kb.text fl
       generalize hq:Lg.numb kb.text fl=q at hr⊢
       repeat' first|apply And.intro|intro _
       all_goals
        refine⟨_,n,_,rfl,fun h=>?_,fun h=>?_⟩
       all_goals first
        | (have hc:0<=q/\¬((k=2\/k=3)/\q=o):=by clear hK;simp_all<;>omega
           have he:Lg.zv9 k o fl n (Lg.kid1 n)=.ok (q+1):=by rw[e1,Lg.zv9,if_neg hne,hq,if_pos hc]
           simp only[go_sem]
           first
            |exact⟨⟨by omega,by omega⟩,⟨(2,v,q+1,fty',gty'),.inr (.inr ⟨rfl,h1,he⟩),hf,hg⟩,qzh (sP6 (sP1 qza)) (sP2 qza) (by first|exact qza|exact sP1 qza|exact sP2 qza),by show 2-2<2-1;omega⟩
            |exact⟨⟨by omega,by omega⟩,⟨(2,v,q+1,fty',lnt gty'),.inr (.inr ⟨rfl,h1,he⟩),hf,(by rw[qzq];exact hg)⟩,qzh (sP6 (sP1 qza)) (sP2 qza) (by first|exact qza|exact sP1 qza|exact sP2 qza),by show 2-2<2-1;omega⟩
            |exact⟨⟨by omega,by omega⟩,⟨(2,v,q+1,lnt fty',gty'),.inr (.inr ⟨rfl,h1,he⟩),(by rw[qzq];exact hf),hg⟩,qzh (sP6 (sP1 qza)) (sP2 qza) (by first|exact qza|exact sP1 qza|exact sP2 qza),by show 2-2<2-1;omega⟩
            |exact⟨⟨by omega,by omega⟩,⟨(2,v,q+1,lnt fty',lnt gty'),.inr (.inr ⟨rfl,h1,he⟩),(by rw[qzq];exact hf),(by rw[qzq];exact hg)⟩,qzh (sP6 (sP1 qza)) (sP2 qza) (by first|exact qza|exact sP1 qza|exact sP2 qza),by show 2-2<2-1;omega⟩)
        | (have hc:¬(0<=q/\¬((k=2\/k=3)/\q=o)):=by clear hK;simp_all<;>omega
           have he:Lg.factR k o fl n=.error (n.pos,33):=by rw[Lg.factR,h1,Lg.sbnd,e1,Lg.zv9,if_neg hne,hq,if_neg hc];rfl
           rw[he]at hK
           exact⟨rfl,hK _ (qxt _ _ · _)⟩)
   · simp only[tyx,hlen,decide_false,bne_self_eq_false,beq_self_eq_true,Bool.false_eq_true,Bool.true_eq_false,false_implies,true_implies,true_and,and_true,eq_self,go_sem]
     have he:Lg.factR k o fl n=.ok (Lg.cmpF id n.text v w ka.num kb.num):=by rw[Lg.factR,h1,Lg.sbnd,h2,Lg.sbnd,e0,e1]
     rw[he]at hK;refine qzm [] [0,1,2,3,5,6,7,9,11,12,13,14,15,16,17,18,19,20] (wC 4 (wB 8 (wF 10 21 22 23 (wT 24 (wA 25 wZ))) 10 (wF 8 21 22 23 (wT 24 (wA 25 wZ)))) 8 (wB 4 (wF 10 21 22 23 (wT 24 (wA 25 wZ))) 10 (wB 4 (wE 21 22 23 (wT 24 (wA 25 wZ))) 21 (wE 4 22 23 (wT 24 (wA 25 wZ))))) 10 (wB 4 (wF 8 21 22 23 (wT 24 (wA 25 wZ))) 8 (wB 4 (wE 21 22 23 (wT 24 (wA 25 wZ))) 21 (wE 4 22 23 (wT 24 (wA 25 wZ)))))) ?_;simp only[hat0,hat1,hlen,go_sem];have hXl:=qwt id n.text v w ka.num kb.num;obtain⟨X,hXe⟩:∃X,X=(Lg.cmpF id n.text v w ka.num kb.num).map leqD:=⟨_,rfl⟩
     have hX2:X.length<=2:=by rw[hXe,lE];exact hXl
     simp only at hK;rw[<-hXe]at hK
     repeat' apply And.intro
     all_goals
      refine⟨_,_,_,_,_,rfl,?_⟩;rw[qwe hba hbb,<-hXe]
     all_goals clear hXe he hXl
     all_goals rcases X with _|⟨x,X⟩
     all_goals
      simp only[lB,lH]at hX2 hgs;simp only[go_sem]
      repeat' first|apply And.intro|intro _
     all_goals first
      |omega
      | (simp only[List.append_nil,List.cons_append,List.nil_append]at hK
         first|exact⟨_,.nil,hK fty' gty' hf hg⟩|exact⟨_,.nil,hK fty' 71 hf rfl⟩)
 · simp only[tyx,hlen,go_sem]
   refine qx4 [4] (T:={q:Nat×Int×Int×Nat×Nat //zjv k o fl n q.1 q.2.1 q.2.2.1/\tyo q.2.2.2.1=tyo fty/\tyo q.2.2.2.2=71})
    (fun q=>⟨85,put 0 (.bp 1000 0) (put 2 (.d (.sl 5 (qze fl) f1)) (put 4 (.ep (qzr n) 0) (put 6 (.bp 6 0) (put 11 (.d (.sl 5 (qze n.kids) false)) (put 12 (.d (.int .i64 2)) (put 13 (.d (.int .i64 q.1.1)) nix)))))),put 6 ⟨[.d (.int .i64 q.1.2.1),.d (.int .i64 q.1.2.2.1)],251⟩ (put 1000 (tyx nm k o [] (y::gs)) nix),owAr 66003 2 q.1.2.2.2.1 [] (owAr 66004 3 q.1.2.2.2.2 (y::gs) nix)⟩) (fun q=>2-q.1.1) ⟨(0,0,0,fty,gty),.inl ⟨rfl,rfl,rfl⟩,rfl,hgt⟩ ?_ ?_
   ·simp only[qzy,go_sem];exact qzh (sP6 (sP1 qza)) (sP2 qza) (sP1 qza)
   rintro⟨⟨i,v,w,fty',gty'⟩,g1,g2,g3⟩;have hv:zjv k o fl n i v w:=g1;have hf:tyo fty'=tyo fty:=g2;have hg:tyo gty'=71:=g3;dsimp only;clear g1 g2 g3
   rcases hv with⟨rfl,rfl,rfl⟩|⟨rfl,h1,rfl⟩|⟨rfl,h1,h2⟩
   · simp only[tyx,hlen,hat0,decide_true,bne_self_eq_false,beq_self_eq_true,Bool.false_eq_true,Bool.true_eq_false,false_implies,true_implies,true_and,and_true,eq_self,go_sem]
     refine⟨fun h=>?_,fun h=>?_⟩
     · first
        |exact⟨⟨(1,0,0,fty',gty'),.inr (.inl ⟨rfl,by rw[e0,Lg.zv9,if_pos (eq_of_beq h)],rfl⟩),hf,hg⟩,qzh (sP6 (sP1 qza)) (sP2 qza) (by first|exact qza|exact sP1 qza|exact sP2 qza),by show 2-1<2-0;omega⟩
        |exact⟨⟨(1,0,0,fty',lnt gty'),.inr (.inl ⟨rfl,by rw[e0,Lg.zv9,if_pos (eq_of_beq h)],rfl⟩),hf,(by rw[qzq];exact hg)⟩,qzh (sP6 (sP1 qza)) (sP2 qza) (by first|exact qza|exact sP1 qza|exact sP2 qza),by show 2-1<2-0;omega⟩
        |exact⟨⟨(1,0,0,lnt fty',gty'),.inr (.inl ⟨rfl,by rw[e0,Lg.zv9,if_pos (eq_of_beq h)],rfl⟩),(by rw[qzq];exact hf),hg⟩,qzh (sP6 (sP1 qza)) (sP2 qza) (by first|exact qza|exact sP1 qza|exact sP2 qza),by show 2-1<2-0;omega⟩
        |exact⟨⟨(1,0,0,lnt fty',lnt gty'),.inr (.inl ⟨rfl,by rw[e0,Lg.zv9,if_pos (eq_of_beq h)],rfl⟩),(by rw[qzq];exact hf),(by rw[qzq];exact hg)⟩,qzh (sP6 (sP1 qza)) (sP2 qza) (by first|exact qza|exact sP1 qza|exact sP2 qza),by show 2-1<2-0;omega⟩
     · refine qzm [8] [0,1,3,4,5] (wD 2 6 (wT 7 wZ)) ?_;simp only[go_sem];refine⟨_,_,fl,f1,rfl,⟨_,_,_,_,_,rfl,rfl,rfl⟩,hfl,?_⟩;simp only[go_sem];refine qzm [] [0,25] (wA 1 (wT 2 (wJ 3 4 5 6 7 8 9 10 (wG 11 12 13 14 15 (wB 16 (wJ 17 18 19 20 21 22 23 24 (wA 26 wZ)) 17 (wB 16 (wJ 18 19 20 21 22 23 24 26 wZ) 18 (wB 16 (wI 19 20 21 22 23 24 26 wZ) 19 (wB 16 (wH 20 21 22 23 24 26 wZ) 20 (wH 16 21 22 23 24 26 wZ))))))))) ?_;simp only[qzy,go_sem]
       have hne:¬ka.text=[]:=by simpa using h
       have hr:=qq2 ka.text fl
       generalize hq:Lg.numb ka.text fl=q at hr⊢
       repeat' first|apply And.intro|intro _
       all_goals
        refine⟨_,n,_,rfl,fun h=>?_,fun h=>?_⟩
       all_goals first
        | (have hc:0<=q/\¬((k=2\/k=3)/\q=o):=by clear hK;simp_all<;>omega
           have he:Lg.zv9 k o fl n (Lg.kid0 n)=.ok (q+1):=by rw[e0,Lg.zv9,if_neg hne,hq,if_pos hc]
           simp only[go_sem]
           first
            |exact⟨⟨by omega,by omega⟩,⟨(1,q+1,0,fty',gty'),.inr (.inl ⟨rfl,he,rfl⟩),hf,hg⟩,qzh (sP6 (sP1 qza)) (sP2 qza) (by first|exact qza|exact sP1 qza|exact sP2 qza),by show 2-1<2-0;omega⟩
            |exact⟨⟨by omega,by omega⟩,⟨(1,q+1,0,fty',lnt gty'),.inr (.inl ⟨rfl,he,rfl⟩),hf,(by rw[qzq];exact hg)⟩,qzh (sP6 (sP1 qza)) (sP2 qza) (by first|exact qza|exact sP1 qza|exact sP2 qza),by show 2-1<2-0;omega⟩
            |exact⟨⟨by omega,by omega⟩,⟨(1,q+1,0,lnt fty',gty'),.inr (.inl ⟨rfl,he,rfl⟩),(by rw[qzq];exact hf),hg⟩,qzh (sP6 (sP1 qza)) (sP2 qza) (by first|exact qza|exact sP1 qza|exact sP2 qza),by show 2-1<2-0;omega⟩
            |exact⟨⟨by omega,by omega⟩,⟨(1,q+1,0,lnt fty',lnt gty'),.inr (.inl ⟨rfl,he,rfl⟩),(by rw[qzq];exact hf),(by rw[qzq];exact hg)⟩,qzh (sP6 (sP1 qza)) (sP2 qza) (by first|exact qza|exact sP1 qza|exact sP2 qza),by show 2-1<2-0;omega⟩)
        | (have hc:¬(0<=q/\¬((k=2\/k=3)/\q=o)):=by clear hK;simp_all<;>omega
           have he:Lg.factR k o fl n=.error (n.pos,33):=by rw[Lg.factR,e0,Lg.zv9,if_neg hne,hq,if_neg hc];rfl
           rw[he]at hK
           exact⟨rfl,hK _ (qxt _ _ · _)⟩)
   · simp only[tyx,hlen,hat1,decide_true,bne_self_eq_false,beq_self_eq_true,Bool.false_eq_true,Bool.true_eq_false,false_implies,true_implies,true_and,and_true,eq_self,go_sem]
     refine⟨fun h=>?_,fun h=>?_⟩
     · first
        |exact⟨⟨(2,v,0,fty',gty'),.inr (.inr ⟨rfl,h1,by rw[e1,Lg.zv9,if_pos (eq_of_beq h)]⟩),hf,hg⟩,qzh (sP6 (sP1 qza)) (sP2 qza) (by first|exact qza|exact sP1 qza|exact sP2 qza),by show 2-2<2-1;omega⟩
        |exact⟨⟨(2,v,0,fty',lnt gty'),.inr (.inr ⟨rfl,h1,by rw[e1,Lg.zv9,if_pos (eq_of_beq h)]⟩),hf,(by rw[qzq];exact hg)⟩,qzh (sP6 (sP1 qza)) (sP2 qza) (by first|exact qza|exact sP1 qza|exact sP2 qza),by show 2-2<2-1;omega⟩
        |exact⟨⟨(2,v,0,lnt fty',gty'),.inr (.inr ⟨rfl,h1,by rw[e1,Lg.zv9,if_pos (eq_of_beq h)]⟩),(by rw[qzq];exact hf),hg⟩,qzh (sP6 (sP1 qza)) (sP2 qza) (by first|exact qza|exact sP1 qza|exact sP2 qza),by show 2-2<2-1;omega⟩
        |exact⟨⟨(2,v,0,lnt fty',lnt gty'),.inr (.inr ⟨rfl,h1,by rw[e1,Lg.zv9,if_pos (eq_of_beq h)]⟩),(by rw[qzq];exact hf),(by rw[qzq];exact hg)⟩,qzh (sP6 (sP1 qza)) (sP2 qza) (by first|exact qza|exact sP1 qza|exact sP2 qza),by show 2-2<2-1;omega⟩
     · refine qzm [8] [0,1,3,4,5] (wD 2 6 (wT 7 wZ)) ?_;simp only[go_sem];refine⟨_,_,fl,f1,rfl,⟨_,_,_,_,_,rfl,rfl,rfl⟩,hfl,?_⟩;simp only[go_sem];refine qzm [] [0,25] (wA 1 (wT 2 (wJ 3 4 5 6 7 8 9 10 (wG 11 12 13 14 15 (wB 16 (wJ 17 18 19 20 21 22 23 24 (wA 26 wZ)) 17 (wB 16 (wJ 18 19 20 21 22 23 24 26 wZ) 18 (wB 16 (wI 19 20 21 22 23 24 26 wZ) 19 (wB 16 (wH 20 21 22 23 24 26 wZ) 20 (wH 16 21 22 23 24 26 wZ))))))))) ?_;simp only[qzy,go_sem]
       have hne:¬kb.text=[]:=by simpa using h
       have hr:=qq2 kb.text fl
       generalize hq:Lg.numb kb.text fl=q at hr⊢
       repeat' first|apply And.intro|intro _
       all_goals
        refine⟨_,n,_,rfl,fun h=>?_,fun h=>?_⟩
       all_goals first
        | (have hc:0<=q/\¬((k=2\/k=3)/\q=o):=by clear hK;simp_all<;>omega
           have he:Lg.zv9 k o fl n (Lg.kid1 n)=.ok (q+1):=by rw[e1,Lg.zv9,if_neg hne,hq,if_pos hc]
           simp only[go_sem]
           first
            |exact⟨⟨by omega,by omega⟩,⟨(2,v,q+1,fty',gty'),.inr (.inr ⟨rfl,h1,he⟩),hf,hg⟩,qzh (sP6 (sP1 qza)) (sP2 qza) (by first|exact qza|exact sP1 qza|exact sP2 qza),by show 2-2<2-1;omega⟩
            |exact⟨⟨by omega,by omega⟩,⟨(2,v,q+1,fty',lnt gty'),.inr (.inr ⟨rfl,h1,he⟩),hf,(by rw[qzq];exact hg)⟩,qzh (sP6 (sP1 qza)) (sP2 qza) (by first|exact qza|exact sP1 qza|exact sP2 qza),by show 2-2<2-1;omega⟩
            |exact⟨⟨by omega,by omega⟩,⟨(2,v,q+1,lnt fty',gty'),.inr (.inr ⟨rfl,h1,he⟩),(by rw[qzq];exact hf),hg⟩,qzh (sP6 (sP1 qza)) (sP2 qza) (by first|exact qza|exact sP1 qza|exact sP2 qza),by show 2-2<2-1;omega⟩
            |exact⟨⟨by omega,by omega⟩,⟨(2,v,q+1,lnt fty',lnt gty'),.inr (.inr ⟨rfl,h1,he⟩),(by rw[qzq];exact hf),(by rw[qzq];exact hg)⟩,qzh (sP6 (sP1 qza)) (sP2 qza) (by first|exact qza|exact sP1 qza|exact sP2 qza),by show 2-2<2-1;omega⟩)
        | (have hc:¬(0<=q/\¬((k=2\/k=3)/\q=o)):=by clear hK;simp_all<;>omega
           have he:Lg.factR k o fl n=.error (n.pos,33):=by rw[Lg.factR,h1,Lg.sbnd,e1,Lg.zv9,if_neg hne,hq,if_neg hc];rfl
           rw[he]at hK
           exact⟨rfl,hK _ (qxt _ _ · _)⟩)
   · simp only[tyx,hlen,decide_false,bne_self_eq_false,beq_self_eq_true,Bool.false_eq_true,Bool.true_eq_false,false_implies,true_implies,true_and,and_true,eq_self,go_sem]
     have he:Lg.factR k o fl n=.ok (Lg.cmpF id n.text v w ka.num kb.num):=by rw[Lg.factR,h1,Lg.sbnd,h2,Lg.sbnd,e0,e1]
     rw[he]at hK;refine qzm [] [0,1,2,3,5,6,7,9,11,12,13,14,15,16,17,18,19,20] (wC 4 (wB 8 (wF 10 21 22 23 (wT 24 (wA 25 wZ))) 10 (wF 8 21 22 23 (wT 24 (wA 25 wZ)))) 8 (wB 4 (wF 10 21 22 23 (wT 24 (wA 25 wZ))) 10 (wB 4 (wE 21 22 23 (wT 24 (wA 25 wZ))) 21 (wE 4 22 23 (wT 24 (wA 25 wZ))))) 10 (wB 4 (wF 8 21 22 23 (wT 24 (wA 25 wZ))) 8 (wB 4 (wE 21 22 23 (wT 24 (wA 25 wZ))) 21 (wE 4 22 23 (wT 24 (wA 25 wZ)))))) ?_;simp only[hat0,hat1,hlen,go_sem];have hXl:=qwt id n.text v w ka.num kb.num;obtain⟨X,hXe⟩:∃X,X=(Lg.cmpF id n.text v w ka.num kb.num).map leqD:=⟨_,rfl⟩
     have hX2:X.length<=2:=by rw[hXe,lE];exact hXl
     simp only at hK;rw[<-hXe]at hK
     repeat' apply And.intro
     all_goals
      refine⟨_,_,_,_,_,rfl,?_⟩;rw[qwe hba hbb,<-hXe]
     all_goals clear hXe he hXl
     all_goals rcases X with _|⟨x,X⟩
     all_goals
      simp only[lB,lH]at hX2 hgs;simp only[go_sem]
      repeat' first|apply And.intro|intro _
     all_goals first
      |omega
      |exact hg
      | (simp only[List.append_nil,List.cons_append,List.nil_append]at hK
         first
          |exact⟨_,.nil,hK fty' gty' hf hg⟩
          | (rw[show gs.length+1+(X.length+1)=(gs++x::X).length+1 by simp only[lC,lB];omega]
             exact⟨_,.nil,hK fty' gty' hf hg⟩))
 · simp only[tyx,hlen,go_sem]
   refine qx4 [4] (T:={q:Nat×Int×Int×Nat×Nat //zjv k o fl n q.1 q.2.1 q.2.2.1/\tyo q.2.2.2.1=tyo fty/\tyo q.2.2.2.2=71})
    (fun q=>⟨85,put 0 (.bp 1000 0) (put 2 (.d (.sl 5 (qze fl) f1)) (put 4 (.ep (qzr n) 0) (put 6 (.bp 6 0) (put 11 (.d (.sl 5 (qze n.kids) false)) (put 12 (.d (.int .i64 2)) (put 13 (.d (.int .i64 q.1.1)) nix)))))),put 6 ⟨[.d (.int .i64 q.1.2.1),.d (.int .i64 q.1.2.2.1)],251⟩ (put 1000 (tyx nm k o (z::fs) []) nix),owAr 66003 2 q.1.2.2.2.1 (z::fs) (owAr 66004 3 q.1.2.2.2.2 [] nix)⟩) (fun q=>2-q.1.1) ⟨(0,0,0,fty,gty),.inl ⟨rfl,rfl,rfl⟩,rfl,hgt⟩ ?_ ?_
   ·simp only[qzy,go_sem];exact qzh (sP6 (sP1 qza)) (sP2 qza) (sP1 qza)
   rintro⟨⟨i,v,w,fty',gty'⟩,g1,g2,g3⟩;have hv:zjv k o fl n i v w:=g1;have hf:tyo fty'=tyo fty:=g2;have hg:tyo gty'=71:=g3;dsimp only;clear g1 g2 g3
   rcases hv with⟨rfl,rfl,rfl⟩|⟨rfl,h1,rfl⟩|⟨rfl,h1,h2⟩
   · simp only[tyx,hlen,hat0,decide_true,bne_self_eq_false,beq_self_eq_true,Bool.false_eq_true,Bool.true_eq_false,false_implies,true_implies,true_and,and_true,eq_self,go_sem]
     refine⟨fun h=>?_,fun h=>?_⟩
     · first
        |exact⟨⟨(1,0,0,fty',gty'),.inr (.inl ⟨rfl,by rw[e0,Lg.zv9,if_pos (eq_of_beq h)],rfl⟩),hf,hg⟩,qzh (sP6 (sP1 qza)) (sP2 qza) (by first|exact qza|exact sP1 qza|exact sP2 qza),by show 2-1<2-0;omega⟩
        |exact⟨⟨(1,0,0,fty',lnt gty'),.inr (.inl ⟨rfl,by rw[e0,Lg.zv9,if_pos (eq_of_beq h)],rfl⟩),hf,(by rw[qzq];exact hg)⟩,qzh (sP6 (sP1 qza)) (sP2 qza) (by first|exact qza|exact sP1 qza|exact sP2 qza),by show 2-1<2-0;omega⟩
        |exact⟨⟨(1,0,0,lnt fty',gty'),.inr (.inl ⟨rfl,by rw[e0,Lg.zv9,if_pos (eq_of_beq h)],rfl⟩),(by rw[qzq];exact hf),hg⟩,qzh (sP6 (sP1 qza)) (sP2 qza) (by first|exact qza|exact sP1 qza|exact sP2 qza),by show 2-1<2-0;omega⟩
        |exact⟨⟨(1,0,0,lnt fty',lnt gty'),.inr (.inl ⟨rfl,by rw[e0,Lg.zv9,if_pos (eq_of_beq h)],rfl⟩),(by rw[qzq];exact hf),(by rw[qzq];exact hg)⟩,qzh (sP6 (sP1 qza)) (sP2 qza) (by first|exact qza|exact sP1 qza|exact sP2 qza),by show 2-1<2-0;omega⟩
     · refine qzm [8] [0,1,3,4,5] (wD 2 6 (wT 7 wZ)) ?_;simp only[go_sem];refine⟨_,_,fl,f1,rfl,⟨_,_,_,_,_,rfl,rfl,rfl⟩,hfl,?_⟩;simp only[go_sem];refine qzm [] [0,25] (wA 1 (wT 2 (wJ 3 4 5 6 7 8 9 10 (wG 11 12 13 14 15 (wB 16 (wJ 17 18 19 20 21 22 23 24 (wA 26 wZ)) 17 (wB 16 (wJ 18 19 20 21 22 23 24 26 wZ) 18 (wB 16 (wI 19 20 21 22 23 24 26 wZ) 19 (wB 16 (wH 20 21 22 23 24 26 wZ) 20 (wH 16 21 22 23 24 26 wZ))))))))) ?_;simp only[qzy,go_sem]
       have hne:¬ka.text=[]:=by simpa using h
       have hr:=qq2 ka.text fl
       generalize hq:Lg.numb ka.text fl=q at hr⊢
       repeat' first|apply And.intro|intro _
       all_goals
        refine⟨_,n,_,rfl,fun h=>?_,fun h=>?_⟩
       all_goals first
        | (have hc:0<=q/\¬((k=2\/k=3)/\q=o):=by clear hK;simp_all<;>omega
           have he:Lg.zv9 k o fl n (Lg.kid0 n)=.ok (q+1):=by rw[e0,Lg.zv9,if_neg hne,hq,if_pos hc]
           simp only[go_sem]
           first
            |exact⟨⟨by omega,by omega⟩,⟨(1,q+1,0,fty',gty'),.inr (.inl ⟨rfl,he,rfl⟩),hf,hg⟩,qzh (sP6 (sP1 qza)) (sP2 qza) (by first|exact qza|exact sP1 qza|exact sP2 qza),by show 2-1<2-0;omega⟩
            |exact⟨⟨by omega,by omega⟩,⟨(1,q+1,0,fty',lnt gty'),.inr (.inl ⟨rfl,he,rfl⟩),hf,(by rw[qzq];exact hg)⟩,qzh (sP6 (sP1 qza)) (sP2 qza) (by first|exact qza|exact sP1 qza|exact sP2 qza),by show 2-1<2-0;omega⟩
            |exact⟨⟨by omega,by omega⟩,⟨(1,q+1,0,lnt fty',gty'),.inr (.inl ⟨rfl,he,rfl⟩),(by rw[qzq];exact hf),hg⟩,qzh (sP6 (sP1 qza)) (sP2 qza) (by first|exact qza|exact sP1 qza|exact sP2 qza),by show 2-1<2-0;omega⟩
            |exact⟨⟨by omega,by omega⟩,⟨(1,q+1,0,lnt fty',lnt gty'),.inr (.inl ⟨rfl,he,rfl⟩),(by rw[qzq];exact hf),(by rw[qzq];exact hg)⟩,qzh (sP6 (sP1 qza)) (sP2 qza) (by first|exact qza|exact sP1 qza|exact sP2 qza),by show 2-1<2-0;omega⟩)
        | (have hc:¬(0<=q/\¬((k=2\/k=3)/\q=o)):=by clear hK;simp_all<;>omega
           have he:Lg.factR k o fl n=.error (n.pos,33):=by rw[Lg.factR,e0,Lg.zv9,if_neg hne,hq,if_neg hc];rfl
           rw[he]at hK
           exact⟨rfl,hK _ (qxt _ _ · _)⟩)
   · simp only[tyx,hlen,hat1,decide_true,bne_self_eq_false,beq_self_eq_true,Bool.false_eq_true,Bool.true_eq_false,false_implies,true_implies,true_and,and_true,eq_self,go_sem]
     refine⟨fun h=>?_,fun h=>?_⟩
     · first
        |exact⟨⟨(2,v,0,fty',gty'),.inr (.inr ⟨rfl,h1,by rw[e1,Lg.zv9,if_pos (eq_of_beq h)]⟩),hf,hg⟩,qzh (sP6 (sP1 qza)) (sP2 qza) (by first|exact qza|exact sP1 qza|exact sP2 qza),by show 2-2<2-1;omega⟩
        |exact⟨⟨(2,v,0,fty',lnt gty'),.inr (.inr ⟨rfl,h1,by rw[e1,Lg.zv9,if_pos (eq_of_beq h)]⟩),hf,(by rw[qzq];exact hg)⟩,qzh (sP6 (sP1 qza)) (sP2 qza) (by first|exact qza|exact sP1 qza|exact sP2 qza),by show 2-2<2-1;omega⟩
        |exact⟨⟨(2,v,0,lnt fty',gty'),.inr (.inr ⟨rfl,h1,by rw[e1,Lg.zv9,if_pos (eq_of_beq h)]⟩),(by rw[qzq];exact hf),hg⟩,qzh (sP6 (sP1 qza)) (sP2 qza) (by first|exact qza|exact sP1 qza|exact sP2 qza),by show 2-2<2-1;omega⟩
        |exact⟨⟨(2,v,0,lnt fty',lnt gty'),.inr (.inr ⟨rfl,h1,by rw[e1,Lg.zv9,if_pos (eq_of_beq h)]⟩),(by rw[qzq];exact hf),(by rw[qzq];exact hg)⟩,qzh (sP6 (sP1 qza)) (sP2 qza) (by first|exact qza|exact sP1 qza|exact sP2 qza),by show 2-2<2-1;omega⟩
     · refine qzm [8] [0,1,3,4,5] (wD 2 6 (wT 7 wZ)) ?_;simp only[go_sem];refine⟨_,_,fl,f1,rfl,⟨_,_,_,_,_,rfl,rfl,rfl⟩,hfl,?_⟩;simp only[go_sem];refine qzm [] [0,25] (wA 1 (wT 2 (wJ 3 4 5 6 7 8 9 10 (wG 11 12 13 14 15 (wB 16 (wJ 17 18 19 20 21 22 23 24 (wA 26 wZ)) 17 (wB 16 (wJ 18 19 20 21 22 23 24 26 wZ) 18 (wB 16 (wI 19 20 21 22 23 24 26 wZ) 19 (wB 16 (wH 20 21 22 23 24 26 wZ) 20 (wH 16 21 22 23 24 26 wZ))))))))) ?_;simp only[qzy,go_sem]
       have hne:¬kb.text=[]:=by simpa using h
       have hr:=qq2 kb.text fl
       generalize hq:Lg.numb kb.text fl=q at hr⊢
       repeat' first|apply And.intro|intro _
       all_goals
        refine⟨_,n,_,rfl,fun h=>?_,fun h=>?_⟩
       all_goals first
        | (have hc:0<=q/\¬((k=2\/k=3)/\q=o):=by clear hK;simp_all<;>omega
           have he:Lg.zv9 k o fl n (Lg.kid1 n)=.ok (q+1):=by rw[e1,Lg.zv9,if_neg hne,hq,if_pos hc]
           simp only[go_sem]
           first
            |exact⟨⟨by omega,by omega⟩,⟨(2,v,q+1,fty',gty'),.inr (.inr ⟨rfl,h1,he⟩),hf,hg⟩,qzh (sP6 (sP1 qza)) (sP2 qza) (by first|exact qza|exact sP1 qza|exact sP2 qza),by show 2-2<2-1;omega⟩
            |exact⟨⟨by omega,by omega⟩,⟨(2,v,q+1,fty',lnt gty'),.inr (.inr ⟨rfl,h1,he⟩),hf,(by rw[qzq];exact hg)⟩,qzh (sP6 (sP1 qza)) (sP2 qza) (by first|exact qza|exact sP1 qza|exact sP2 qza),by show 2-2<2-1;omega⟩
            |exact⟨⟨by omega,by omega⟩,⟨(2,v,q+1,lnt fty',gty'),.inr (.inr ⟨rfl,h1,he⟩),(by rw[qzq];exact hf),hg⟩,qzh (sP6 (sP1 qza)) (sP2 qza) (by first|exact qza|exact sP1 qza|exact sP2 qza),by show 2-2<2-1;omega⟩
            |exact⟨⟨by omega,by omega⟩,⟨(2,v,q+1,lnt fty',lnt gty'),.inr (.inr ⟨rfl,h1,he⟩),(by rw[qzq];exact hf),(by rw[qzq];exact hg)⟩,qzh (sP6 (sP1 qza)) (sP2 qza) (by first|exact qza|exact sP1 qza|exact sP2 qza),by show 2-2<2-1;omega⟩)
        | (have hc:¬(0<=q/\¬((k=2\/k=3)/\q=o)):=by clear hK;simp_all<;>omega
           have he:Lg.factR k o fl n=.error (n.pos,33):=by rw[Lg.factR,h1,Lg.sbnd,e1,Lg.zv9,if_neg hne,hq,if_neg hc];rfl
           rw[he]at hK
           exact⟨rfl,hK _ (qxt _ _ · _)⟩)
   · simp only[tyx,hlen,decide_false,bne_self_eq_false,beq_self_eq_true,Bool.false_eq_true,Bool.true_eq_false,false_implies,true_implies,true_and,and_true,eq_self,go_sem]
     have he:Lg.factR k o fl n=.ok (Lg.cmpF id n.text v w ka.num kb.num):=by rw[Lg.factR,h1,Lg.sbnd,h2,Lg.sbnd,e0,e1]
     rw[he]at hK;refine qzm [] [0,1,2,3,5,6,7,9,11,12,13,14,15,16,17,18,19,20] (wC 4 (wB 8 (wF 10 21 22 23 (wT 24 (wA 25 wZ))) 10 (wF 8 21 22 23 (wT 24 (wA 25 wZ)))) 8 (wB 4 (wF 10 21 22 23 (wT 24 (wA 25 wZ))) 10 (wB 4 (wE 21 22 23 (wT 24 (wA 25 wZ))) 21 (wE 4 22 23 (wT 24 (wA 25 wZ))))) 10 (wB 4 (wF 8 21 22 23 (wT 24 (wA 25 wZ))) 8 (wB 4 (wE 21 22 23 (wT 24 (wA 25 wZ))) 21 (wE 4 22 23 (wT 24 (wA 25 wZ)))))) ?_;simp only[hat0,hat1,hlen,go_sem];have hXl:=qwt id n.text v w ka.num kb.num;obtain⟨X,hXe⟩:∃X,X=(Lg.cmpF id n.text v w ka.num kb.num).map leqD:=⟨_,rfl⟩
     have hX2:X.length<=2:=by rw[hXe,lE];exact hXl
     simp only at hK;rw[<-hXe]at hK
     repeat' apply And.intro
     all_goals
      refine⟨_,_,_,_,_,rfl,?_⟩;rw[qwe hba hbb,<-hXe]
     all_goals clear hXe he hXl
     all_goals rcases X with _|⟨x,X⟩
     all_goals
      simp only[lB,lH]at hX2 hgs;simp only[go_sem]
      repeat' first|apply And.intro|intro _
     all_goals first
      |omega
      | (simp only[List.append_nil,List.cons_append,List.nil_append]at hK
         first|exact⟨_,.nil,hK fty' gty' hf hg⟩|exact⟨_,.nil,hK fty' 71 hf rfl⟩)
 · simp only[tyx,hlen,go_sem]
   refine qx4 [4] (T:={q:Nat×Int×Int×Nat×Nat //zjv k o fl n q.1 q.2.1 q.2.2.1/\tyo q.2.2.2.1=tyo fty/\tyo q.2.2.2.2=71})
    (fun q=>⟨85,put 0 (.bp 1000 0) (put 2 (.d (.sl 5 (qze fl) f1)) (put 4 (.ep (qzr n) 0) (put 6 (.bp 6 0) (put 11 (.d (.sl 5 (qze n.kids) false)) (put 12 (.d (.int .i64 2)) (put 13 (.d (.int .i64 q.1.1)) nix)))))),put 6 ⟨[.d (.int .i64 q.1.2.1),.d (.int .i64 q.1.2.2.1)],251⟩ (put 1000 (tyx nm k o (z::fs) (y::gs)) nix),owAr 66003 2 q.1.2.2.2.1 (z::fs) (owAr 66004 3 q.1.2.2.2.2 (y::gs) nix)⟩) (fun q=>2-q.1.1) ⟨(0,0,0,fty,gty),.inl ⟨rfl,rfl,rfl⟩,rfl,hgt⟩ ?_ ?_
   ·simp only[qzy,go_sem];exact qzh (sP6 (sP1 qza)) (sP2 qza) (sP2 qza)
   rintro⟨⟨i,v,w,fty',gty'⟩,g1,g2,g3⟩;have hv:zjv k o fl n i v w:=g1;have hf:tyo fty'=tyo fty:=g2;have hg:tyo gty'=71:=g3;dsimp only;clear g1 g2 g3
   rcases hv with⟨rfl,rfl,rfl⟩|⟨rfl,h1,rfl⟩|⟨rfl,h1,h2⟩
   · simp only[tyx,hlen,hat0,decide_true,bne_self_eq_false,beq_self_eq_true,Bool.false_eq_true,Bool.true_eq_false,false_implies,true_implies,true_and,and_true,eq_self,go_sem]
     refine⟨fun h=>?_,fun h=>?_⟩
     · first
        |exact⟨⟨(1,0,0,fty',gty'),.inr (.inl ⟨rfl,by rw[e0,Lg.zv9,if_pos (eq_of_beq h)],rfl⟩),hf,hg⟩,qzh (sP6 (sP1 qza)) (sP2 qza) (by first|exact qza|exact sP1 qza|exact sP2 qza),by show 2-1<2-0;omega⟩
        |exact⟨⟨(1,0,0,fty',lnt gty'),.inr (.inl ⟨rfl,by rw[e0,Lg.zv9,if_pos (eq_of_beq h)],rfl⟩),hf,(by rw[qzq];exact hg)⟩,qzh (sP6 (sP1 qza)) (sP2 qza) (by first|exact qza|exact sP1 qza|exact sP2 qza),by show 2-1<2-0;omega⟩
        |exact⟨⟨(1,0,0,lnt fty',gty'),.inr (.inl ⟨rfl,by rw[e0,Lg.zv9,if_pos (eq_of_beq h)],rfl⟩),(by rw[qzq];exact hf),hg⟩,qzh (sP6 (sP1 qza)) (sP2 qza) (by first|exact qza|exact sP1 qza|exact sP2 qza),by show 2-1<2-0;omega⟩
        |exact⟨⟨(1,0,0,lnt fty',lnt gty'),.inr (.inl ⟨rfl,by rw[e0,Lg.zv9,if_pos (eq_of_beq h)],rfl⟩),(by rw[qzq];exact hf),(by rw[qzq];exact hg)⟩,qzh (sP6 (sP1 qza)) (sP2 qza) (by first|exact qza|exact sP1 qza|exact sP2 qza),by show 2-1<2-0;omega⟩
     · refine qzm [8] [0,1,3,4,5] (wD 2 6 (wT 7 wZ)) ?_;simp only[go_sem];refine⟨_,_,fl,f1,rfl,⟨_,_,_,_,_,rfl,rfl,rfl⟩,hfl,?_⟩;simp only[go_sem];refine qzm [] [0,25] (wA 1 (wT 2 (wJ 3 4 5 6 7 8 9 10 (wG 11 12 13 14 15 (wB 16 (wJ 17 18 19 20 21 22 23 24 (wA 26 wZ)) 17 (wB 16 (wJ 18 19 20 21 22 23 24 26 wZ) 18 (wB 16 (wI 19 20 21 22 23 24 26 wZ) 19 (wB 16 (wH 20 21 22 23 24 26 wZ) 20 (wH 16 21 22 23 24 26 wZ))))))))) ?_;simp only[qzy,go_sem]
       have hne:¬ka.text=[]:=by simpa using h
       have hr:=qq2 ka.text fl
       generalize hq:Lg.numb ka.text fl=q at hr⊢
       repeat' first|apply And.intro|intro _
       all_goals
        refine⟨_,n,_,rfl,fun h=>?_,fun h=>?_⟩
       all_goals first
        | (have hc:0<=q/\¬((k=2\/k=3)/\q=o):=by clear hK;simp_all<;>omega
           have he:Lg.zv9 k o fl n (Lg.kid0 n)=.ok (q+1):=by rw[e0,Lg.zv9,if_neg hne,hq,if_pos hc]
           simp only[go_sem]
           first
            |exact⟨⟨by omega,by omega⟩,⟨(1,q+1,0,fty',gty'),.inr (.inl ⟨rfl,he,rfl⟩),hf,hg⟩,qzh (sP6 (sP1 qza)) (sP2 qza) (by first|exact qza|exact sP1 qza|exact sP2 qza),by show 2-1<2-0;omega⟩
            |exact⟨⟨by omega,by omega⟩,⟨(1,q+1,0,fty',lnt gty'),.inr (.inl ⟨rfl,he,rfl⟩),hf,(by rw[qzq];exact hg)⟩,qzh (sP6 (sP1 qza)) (sP2 qza) (by first|exact qza|exact sP1 qza|exact sP2 qza),by show 2-1<2-0;omega⟩
            |exact⟨⟨by omega,by omega⟩,⟨(1,q+1,0,lnt fty',gty'),.inr (.inl ⟨rfl,he,rfl⟩),(by rw[qzq];exact hf),hg⟩,qzh (sP6 (sP1 qza)) (sP2 qza) (by first|exact qza|exact sP1 qza|exact sP2 qza),by show 2-1<2-0;omega⟩
            |exact⟨⟨by omega,by omega⟩,⟨(1,q+1,0,lnt fty',lnt gty'),.inr (.inl ⟨rfl,he,rfl⟩),(by rw[qzq];exact hf),(by rw[qzq];exact hg)⟩,qzh (sP6 (sP1 qza)) (sP2 qza) (by first|exact qza|exact sP1 qza|exact sP2 qza),by show 2-1<2-0;omega⟩)
        | (have hc:¬(0<=q/\¬((k=2\/k=3)/\q=o)):=by clear hK;simp_all<;>omega
           have he:Lg.factR k o fl n=.error (n.pos,33):=by rw[Lg.factR,e0,Lg.zv9,if_neg hne,hq,if_neg hc];rfl
           rw[he]at hK
           exact⟨rfl,hK _ (qxt _ _ · _)⟩)
   · simp only[tyx,hlen,hat1,decide_true,bne_self_eq_false,beq_self_eq_true,Bool.false_eq_true,Bool.true_eq_false,false_implies,true_implies,true_and,and_true,eq_self,go_sem]
     refine⟨fun h=>?_,fun h=>?_⟩
     · first
        |exact⟨⟨(2,v,0,fty',gty'),.inr (.inr ⟨rfl,h1,by rw[e1,Lg.zv9,if_pos (eq_of_beq h)]⟩),hf,hg⟩,qzh (sP6 (sP1 qza)) (sP2 qza) (by first|exact qza|exact sP1 qza|exact sP2 qza),by show 2-2<2-1;omega⟩
        |exact⟨⟨(2,v,0,fty',lnt gty'),.inr (.inr ⟨rfl,h1,by rw[e1,Lg.zv9,if_pos (eq_of_beq h)]⟩),hf,(by rw[qzq];exact hg)⟩,qzh (sP6 (sP1 qza)) (sP2 qza) (by first|exact qza|exact sP1 qza|exact sP2 qza),by show 2-2<2-1;omega⟩
        |exact⟨⟨(2,v,0,lnt fty',gty'),.inr (.inr ⟨rfl,h1,by rw[e1,Lg.zv9,if_pos (eq_of_beq h)]⟩),(by rw[qzq];exact hf),hg⟩,qzh (sP6 (sP1 qza)) (sP2 qza) (by first|exact qza|exact sP1 qza|exact sP2 qza),by show 2-2<2-1;omega⟩
        |exact⟨⟨(2,v,0,lnt fty',lnt gty'),.inr (.inr ⟨rfl,h1,by rw[e1,Lg.zv9,if_pos (eq_of_beq h)]⟩),(by rw[qzq];exact hf),(by rw[qzq];exact hg)⟩,qzh (sP6 (sP1 qza)) (sP2 qza) (by first|exact qza|exact sP1 qza|exact sP2 qza),by show 2-2<2-1;omega⟩
     · refine qzm [8] [0,1,3,4,5] (wD 2 6 (wT 7 wZ)) ?_;simp only[go_sem];refine⟨_,_,fl,f1,rfl,⟨_,_,_,_,_,rfl,rfl,rfl⟩,hfl,?_⟩;simp only[go_sem];refine qzm [] [0,25] (wA 1 (wT 2 (wJ 3 4 5 6 7 8 9 10 (wG 11 12 13 14 15 (wB 16 (wJ 17 18 19 20 21 22 23 24 (wA 26 wZ)) 17 (wB 16 (wJ 18 19 20 21 22 23 24 26 wZ) 18 (wB 16 (wI 19 20 21 22 23 24 26 wZ) 19 (wB 16 (wH 20 21 22 23 24 26 wZ) 20 (wH 16 21 22 23 24 26 wZ))))))))) ?_;simp only[qzy,go_sem]
       have hne:¬kb.text=[]:=by simpa using h
       have hr:=qq2 kb.text fl
       generalize hq:Lg.numb kb.text fl=q at hr⊢
       repeat' first|apply And.intro|intro _
       all_goals
        refine⟨_,n,_,rfl,fun h=>?_,fun h=>?_⟩
       all_goals first
        | (have hc:0<=q/\¬((k=2\/k=3)/\q=o):=by clear hK;simp_all<;>omega
           have he:Lg.zv9 k o fl n (Lg.kid1 n)=.ok (q+1):=by rw[e1,Lg.zv9,if_neg hne,hq,if_pos hc]
           simp only[go_sem]
           first
            |exact⟨⟨by omega,by omega⟩,⟨(2,v,q+1,fty',gty'),.inr (.inr ⟨rfl,h1,he⟩),hf,hg⟩,qzh (sP6 (sP1 qza)) (sP2 qza) (by first|exact qza|exact sP1 qza|exact sP2 qza),by show 2-2<2-1;omega⟩
            |exact⟨⟨by omega,by omega⟩,⟨(2,v,q+1,fty',lnt gty'),.inr (.inr ⟨rfl,h1,he⟩),hf,(by rw[qzq];exact hg)⟩,qzh (sP6 (sP1 qza)) (sP2 qza) (by first|exact qza|exact sP1 qza|exact sP2 qza),by show 2-2<2-1;omega⟩
            |exact⟨⟨by omega,by omega⟩,⟨(2,v,q+1,lnt fty',gty'),.inr (.inr ⟨rfl,h1,he⟩),(by rw[qzq];exact hf),hg⟩,qzh (sP6 (sP1 qza)) (sP2 qza) (by first|exact qza|exact sP1 qza|exact sP2 qza),by show 2-2<2-1;omega⟩
            |exact⟨⟨by omega,by omega⟩,⟨(2,v,q+1,lnt fty',lnt gty'),.inr (.inr ⟨rfl,h1,he⟩),(by rw[qzq];exact hf),(by rw[qzq];exact hg)⟩,qzh (sP6 (sP1 qza)) (sP2 qza) (by first|exact qza|exact sP1 qza|exact sP2 qza),by show 2-2<2-1;omega⟩)
        | (have hc:¬(0<=q/\¬((k=2\/k=3)/\q=o)):=by clear hK;simp_all<;>omega
           have he:Lg.factR k o fl n=.error (n.pos,33):=by rw[Lg.factR,h1,Lg.sbnd,e1,Lg.zv9,if_neg hne,hq,if_neg hc];rfl
           rw[he]at hK
           exact⟨rfl,hK _ (qxt _ _ · _)⟩)
   · simp only[tyx,hlen,decide_false,bne_self_eq_false,beq_self_eq_true,Bool.false_eq_true,Bool.true_eq_false,false_implies,true_implies,true_and,and_true,eq_self,go_sem]
     have he:Lg.factR k o fl n=.ok (Lg.cmpF id n.text v w ka.num kb.num):=by rw[Lg.factR,h1,Lg.sbnd,h2,Lg.sbnd,e0,e1]
     rw[he]at hK;refine qzm [] [0,1,2,3,5,6,7,9,11,12,13,14,15,16,17,18,19,20] (wC 4 (wB 8 (wF 10 21 22 23 (wT 24 (wA 25 wZ))) 10 (wF 8 21 22 23 (wT 24 (wA 25 wZ)))) 8 (wB 4 (wF 10 21 22 23 (wT 24 (wA 25 wZ))) 10 (wB 4 (wE 21 22 23 (wT 24 (wA 25 wZ))) 21 (wE 4 22 23 (wT 24 (wA 25 wZ))))) 10 (wB 4 (wF 8 21 22 23 (wT 24 (wA 25 wZ))) 8 (wB 4 (wE 21 22 23 (wT 24 (wA 25 wZ))) 21 (wE 4 22 23 (wT 24 (wA 25 wZ)))))) ?_;simp only[hat0,hat1,hlen,go_sem];have hXl:=qwt id n.text v w ka.num kb.num;obtain⟨X,hXe⟩:∃X,X=(Lg.cmpF id n.text v w ka.num kb.num).map leqD:=⟨_,rfl⟩
     have hX2:X.length<=2:=by rw[hXe,lE];exact hXl
     simp only at hK;rw[<-hXe]at hK
     repeat' apply And.intro
     all_goals
      refine⟨_,_,_,_,_,rfl,?_⟩;rw[qwe hba hbb,<-hXe]
     all_goals clear hXe he hXl
     all_goals rcases X with _|⟨x,X⟩
     all_goals
      simp only[lB,lH]at hX2 hgs;simp only[go_sem]
      repeat' first|apply And.intro|intro _
     all_goals first
      |omega
      |exact hg
      | (simp only[List.append_nil,List.cons_append,List.nil_append]at hK
         first
          |exact⟨_,.nil,hK fty' gty' hf hg⟩
          | (rw[show gs.length+1+(X.length+1)=(gs++x::X).length+1 by simp only[lC,lB];omega]
             exact⟨_,.nil,hK fty' gty' hf hg⟩))
end Lx
