import Derived.Test.YtkknljojdgpdaaaGreatDoorA27
set_option maxHeartbeats 32000000
set_option linter.unusedSimpArgs false
set_option linter.unusedVariables false
set_option maxRecDepth 20000
namespace Lx
open Go
open Lg (Tok Tree Ty Par Sg Sym Chk Hp)
open Go.Proofs (Tryz.prog)
open Go.Proofs.Tryz
theorem lawNames_S:OKS Tryz.prog 5 trueE:=by
 refine qv8 qzu (E:=EH) (sp:=spL [(8,libS),(9,.c wakeS),(10,.c beginS)]) qzt qzl (OKs.ok ⟨lib_OK,⟨wake_OK,⟨zwm,trivial⟩⟩⟩) func5 rfl ntmps5 results5 call5 [] ?_;rintro ys bx Kr Kp ⟨l,rfl,hK⟩ hN
 refine⟨trivial,by simp,?_⟩
 simp only[hN.fgt,go_sem];refine⟨l,rfl,?_⟩
 cases hl:Lg.libR l with
 |none=>
  intro F T G;simp only[libD,hN.fgt,go_sem];refine⟨rfl,?_⟩;simp only[hN.fgt,bne_self_eq_false,beq_self_eq_true,Bool.false_eq_true,Bool.true_eq_false,false_implies,true_implies,true_and,and_true,eq_self,go_sem];refine⟨rfl,?_⟩;simp only[hN.fgt,qqc,go_sem];refine qz8 [] ?_;simp only[hN.fgt,hN.fz,qqc,go_sem];exact⟨_,nix,qzb (.rfl _),qza,hK⟩
 |some q=>
  obtain⟨n,T,G⟩:=q;have hok:=Lg.lib_ok hl;have hgl:=hok.gl;simp only[libD,hN.fgt,go_sem];refine⟨rfl,?_⟩;simp only[hN.fgt,qqc,bne_self_eq_false,beq_self_eq_true,Bool.false_eq_true,Bool.true_eq_false,false_implies,true_implies,true_and,and_true,eq_self,go_sem]
  refine qx4 [3] (T:={i:Nat //i<=G.length}) (fun i=>⟨170,put 2 (.d (.bool false)) (put 3 (.ep (libD (Lg.fnsOf n) T G) 0) (put 26 (.d (.sl 5 (G.map sigD) false)) (put 27 (.d (.int .i64 G.length)) (put 28 (.d (.int .i64 i.1)) nix)))),nix,nix⟩) (fun i=>G.length-i.1) ⟨0,Nat.zero_le _⟩ ?_ ?_
  ·simp only[lE,go_sem];exact qzh (sP5 qza) qza qza
  rintro⟨i,hi⟩;have hi':i<=G.length:=hi;dsimp only;clear hi;unfold libD;simp only[go_sem]
  refine⟨fun h=>?_,fun h=>?_⟩
  · have hlt:i<G.length:=by have:=lF h;omega
    have hgat:(G.map sigD)[i]?=some (sigD G[i]):=qvh hlt;obtain⟨hg1,hg2⟩:=hok.sigs _ (List.getElem_mem hlt)
    generalize G[i]=g at hgat hg1 hg2
    refine⟨by omega,by omega,?_⟩
    rw[lA,hgat];simp only[sig_ag,go_sem]
    refine⟨g,_,T,rfl,.inl ⟨_,rfl⟩,hok.types,by omega,fun p hp h1=>(hg1 p hp).2.2 h1,?_⟩
    cases hb:Lg.beginR g T with
    |error e=>
     have he:=Lg.beginsR_err hb;subst he;dsimp only;simp only[qqc,go_sem]
     refine⟨⟨by omega,by omega⟩,⟨i+1,hlt⟩,qzh (sP5 qza) qza qza,?_⟩
     show G.length-(i+1)<G.length-i
     omega
    |ok s=>
     intro B h F vs bs cs hS;obtain⟨⟨hl1,hl2,hl3⟩,hpar⟩:=Lg.beginR_par hok hg1 hb;have hT1:=NT.of B
     rcases hS.cases hl1 hl2 hl3 with⟨h0,rfl,rfl,rfl,_⟩|⟨h0,⟨b1,c1,rfl,hc1,hb1⟩,⟨b2,c2,rfl,hc2,hb2⟩,⟨b3,c3,rfl,hc3,hb3⟩⟩
     · have hp0:g.params=[]:=List.eq_nil_of_length_eq_zero h0;simp only[startD,hp0,hN.fgt,qqc,go_sem]
       refine qzj (T:=Unit) (fun _=>⟨170,put 2 (.d (.bool false)) (put 3 (.ep (D.ag [D.sl 5 (qze (Lg.fnsOf n)) false,D.sl 5 (List.map qqk T) false,D.sl 5 (List.map sigD G) false,D.sl 5 (qze (Lg.fnsOf n)) false,D.sl 5 (List.map qqk T) false,D.sl 5 (List.map sigD G) false]) 0) (put 26 (.d (.sl 5 (G.map sigD) false)) (put 27 (.d (.int .i64 G.length)) (put 28 (.d (.int .i64 i)) (put 68 (.d (.int .i64 0)) (put 69 (.d (.int .i64 0)) nix)))))),nix,nix⟩) (fun _=>0) () ⟨rfl,sP6 (sP1 qza),qza,qza⟩ ?_
       intro _;simp only[go_sem]
       refine⟨fun e=>absurd e (by simp),fun _=>⟨⟨by omega,by omega⟩,⟨i+1,hlt⟩,qzh (sP5 qza) qza qza,?_⟩⟩
       show G.length-(i+1)<G.length-i
       omega
     · have hne : ((g.params.length:Int) != (g.params.length:Int))=false:=by simp
       have hO1:=ov_arr nix hb1;have hO2:=ov_arr nix hb2;have hO3:=ov_arr nix hb3;obtain⟨va,fv,us,hA, -⟩:=id (hS.heap.ov nix);have hbx:ovS B nix (h+1000000)=some ⟨[.d va,.d (.int .i64 s.heap.vars),.d fv],59⟩:=hA.box;simp only[startD,hN.fgt,qqc,hne,go_sem]
       refine qx4 [7] (T:={j:Nat //j<=g.params.length}) (fun j=>⟨170,put 2 (.d (.bool false)) (put 3 (.ep (D.ag [D.sl 5 (qze (Lg.fnsOf n)) false,D.sl 5 (List.map qqk T) false,D.sl 5 (List.map sigD G) false,D.sl 5 (qze (Lg.fnsOf n)) false,D.sl 5 (List.map qqk T) false,D.sl 5 (List.map sigD G) false]) 0) (put 26 (.d (.sl 5 (G.map sigD) false)) (put 27 (.d (.int .i64 G.length)) (put 28 (.d (.int .i64 i)) (put 7 (.ep (D.ag [ptD h,slD b1 g.params.length c1,slD b2 g.params.length c2,slD b3 g.params.length c3]) 0) (put 67 (.d (.sl 3 (g.params.map parD) false)) (put 68 (.d (.int .i64 g.params.length)) (put 69 (.d (.int .i64 j.1)) nix)))))))),ovS B nix,nix⟩) (fun j=>g.params.length-j.1) ⟨0,Nat.zero_le _⟩ ?_ ?_
       · simp only[hT1.ns.fgt,hT1.ns.fz,hT1.ns.fzb,go_sem]
         exact⟨rfl,sP6 (sP3 qza),qqe fun k=>by simp only[go_sem],qza⟩
       rintro⟨j,hj⟩;have hj':j<=g.params.length:=hj;dsimp only;clear hj;simp only[lE,go_sem]
       refine⟨fun hlt=>?_,fun hge=>?_⟩
       · have hlt:j<g.params.length:=by have:=lF hlt;omega
         have hpg:(g.params.map parD)[j]?=some (parD g.params[j]):=qvh hlt;have hpm:=hg1 _ (List.getElem_mem hlt);have hv:s.vars[j]?=some s.vars[j]:=lD (by omega);have hbl:s.blocks[j]?=some s.blocks[j]:=lD (by omega);have hct:s.counts[j]?=some s.counts[j]:=lD (by omega);have hP:=hpar j _ _ _ _ (lD hlt) hv hbl hct
         generalize g.params[j]=p at hpg hpm hP
         generalize s.vars[j]=v at hv hP
         generalize s.blocks[j]=b at hbl hP
         generalize s.counts[j]=ct at hct hP
         refine⟨by omega,by omega,?_⟩
         rw[lA,hpg];simp only[parD,hT1.ns.fgt,go_sem]
         have hvD:∀x:Lg.Bs×Sym,(varD x).lcs.length=5:=fun _=>rfl
         have hiD:∀x:Int,(intD x).lcs.length=1:=fun _=>rfl
         have hsD:∀x:Sym,(symD x).lcs.length=4:=fun _=>rfl
         have rv0:(arrB (s.vars.map varD) 5 55 c1).cells[j*5]?=some (.d (.st v.1)):=arr_at 0 hvD hv (by decide);have rv1:(arrB (s.vars.map varD) 5 55 c1).cells[j*5+1]?=some (.d (.int .i64 v.2.kind)):=arr_at 1 hvD hv (by decide)
         have rb0:(arrB (s.blocks.map intD) 1 3 c2).cells[j]?=some (.d (.int .i64 b)):=by
          have:=arr_at (f:=intD) (ty:=3) (c:=c2) 0 hiD hbl (by decide);rw[Nat.mul_one]at this;exact this
         have rc0:(arrB (s.counts.map symD) 4 52 c3).cells[j*4]?=some (.d (.int .i64 ct.kind)):=arr_at 0 hsD hct (by decide);have rvl:=zwn (f:=varD) (ty:=55) (c:=c1) hvD (i:=j) (l:=s.vars) (by omega);have rbl:=zwn (f:=intD) (ty:=3) (c:=c2) hiD (i:=j) (l:=s.blocks) (by omega);have rcl:=zwn (f:=symD) (ty:=52) (c:=c3) hsD (i:=j) (l:=s.counts) (by omega)
         have hj0:(0:Int)<=(j:Int):=by omega
         have hjl:(j:Int)<(g.params.length:Int):=by omega
         have hnm:(v.1==p.name)=true:=by rw[hP.name];simp
         by_cases hm:p.mode=1
         · obtain⟨hk1,hb1'⟩:=hP.int hm
           have hm':(p.mode==1)=true:=by rw[hm];rfl
           have hk':(v.2.kind==1)=true:=by rw[hk1];rfl
           have hb':decide (b<0)=true:=by rw[hb1'];rfl
           refine qz5 ?_;simp only[hO1,hO2,hO3,rv0,rv1,rb0,hj0,hjl,lA,true_and,Nat.mul_one,hnm,hm',hk',hb',go_sem]
           refine⟨⟨by omega,by omega⟩,⟨j+1,hlt⟩,qzh (sP6 (sP3 qza)) (qqe fun k=>by simp only[go_sem]) qza,?_⟩
           show g.params.length-(j+1)<g.params.length-j
           omega
         · obtain ⟨hk1,hb0,x,hx,hxl,hxv,hxa,hxc⟩:=hP.blk hm
           have hm':(p.mode==1)=false:=by simpa using hm
           have hk':(v.2.kind==1)=false:=by rw[hk1];rfl
           have hb':decide (b<0)=false:=by simpa using hb0
           refine qz5 ?_;simp only[hO1,hO2,hO3,rv0,rv1,rb0,hj0,hjl,lA,true_and,Nat.mul_one,hnm,hm',hk',hb',go_sem];have htp:0<=p.typ/\p.typ<T.length:=(hpm.2.2 hm);have htl:=htp.2;obtain⟨ht1,ht2⟩:=Lg.zzl htp;have hty:=hok.types _ ht1
           refine⟨by omega,by omega,?_⟩
           rw[List.getElem?_map,ht2]
           generalize ht0:Lg.tyAt T p.typ=t at ht1 ht2 hty
           simp only[qqk,go_sem];obtain⟨u,hu⟩:∃u,u=Lg.tyOf T p:=⟨_,rfl⟩;have hbx':ovS B nix (h+1000000)=some ⟨[.d va,.d (.int .i64 s.heap.vars),.d fv],59⟩:=hbx;have hbl':b.toNat<s.heap.chunks.length:=(List.getElem?_eq_some_iff.1 hx).1
           have hbc:b<(s.heap.chunks.length:Int):=by omega
           obtain⟨A,c,rfl,hcc,hcb⟩:∃A c,va=slD A s.heap.chunks.length c/\s.heap.chunks.length<=c/\ovS B nix (A+1000000)=some (chkB s.heap.chunks us c):=by
            rcases hA.chunks with⟨h,_⟩|⟨_,h⟩
            ·rw[h]at hx;simp at hx
            ·exact h
           have hcb':ovS B nix (A+1000000)=some ⟨(chkB s.heap.chunks us c).cells,62⟩:=hcb;obtain⟨w,hw⟩:∃w,us[b.toNat]?=some w:=⟨_,lD (hA.len▸hbl')⟩;have rch:List.take 11 (List.drop (b.toNat*11) (chkB s.heap.chunks us c).cells)=[.d (.int .i64 x.origin),.d (.int .i64 x.typ),.d (.int .i64 x.at_),.d (.bool x.live),.d (.bool x.held),.d (.bool x.array),.d (.int .i64 x.size.kind),.d (.int .i64 x.size.var),.d (.int .i64 x.size.k),.d (.int .i64 x.size.block),.d w]:=zwi (k:=c) hx hw hA.len
           have rchl:b.toNat*11+11<=(chkB s.heap.chunks us c).cells.length:=by
            have:=congrArg List.length rch;simp only[List.length_take,List.length_drop,lB,lH]at this;omega
           have hcw:=hA.cells _ _ _ hx hw
           have hwo:one (.d w)=true:=by rcases id hcw with⟨_,⟨f,rfl⟩|⟨rfl,_⟩⟩|⟨_,R,k,rfl,_⟩<;>rfl
           refine⟨fun h4=>?_,fun h4=>?_⟩
           have h4':(Lg.tyAt T p.typ).sort=4:=by rw[ht0];simpa using h4
           obtain⟨o1,o2,o3⟩:=hty.of4 (by rw[<-ht0];exact h4');obtain⟨hu1,hu2⟩:=Lg.zzl ⟨o1,o2⟩;refine⟨o1,o2,?_⟩
           have hu':u=Lg.tyAt T t.of:=by rw[hu,Lg.tyOf,Lg.zq7,if_pos h4',ht0]
           rw[List.getElem?_map,hu2,<-hu'];simp only[qqk,go_sem]
           rotate_left
           obtain rfl:u=t:=by rw[hu,Lg.tyOf,Lg.zq7,if_neg (by rw[ht0];simpa using h4),ht0]
           all_goals
            refine qqo [] [h+1000000,A+1000000,b2+1000000] [0,1,2,3,4,5,6,7,8,9,10,11] (wD 12 13 wZ) ⟨170,put 2 (.d (.bool false)) (put 3 (.ep (D.ag [D.sl 5 (qze (Lg.fnsOf n)) false,D.sl 5 (List.map qqk T) false,D.sl 5 (List.map sigD G) false,D.sl 5 (qze (Lg.fnsOf n)) false,D.sl 5 (List.map qqk T) false,D.sl 5 (List.map sigD G) false]) 0) (put 26 (.d (.sl 5 (G.map sigD) false)) (put 27 (.d (.int .i64 G.length)) (put 28 (.d (.int .i64 i)) (put 7 (.ep (D.ag [ptD h,slD b1 g.params.length c1,slD b2 g.params.length c2,slD b3 g.params.length c3]) 0) (put 9 (.d (.int .i64 j)) (put 11 (.bp 11 0) (put 12 (.bp 12 0) (put 67 (.d (.sl 3 (g.params.map parD) false)) (put 68 (.d (.int .i64 g.params.length)) (put 69 (.d (.int .i64 j)) nix))))))))))),put 12 ⟨[.d (.int .i64 x.origin),.d (.int .i64 x.typ),.d (.int .i64 x.at_),.d (.bool x.live),.d (.bool x.held),.d (.bool x.array),.d (.int .i64 x.size.kind),.d (.int .i64 x.size.var),.d (.int .i64 x.size.k),.d (.int .i64 x.size.block),.d w],62⟩ (put 11 ⟨[.d (.st u.name),.d (.int .i64 u.sort),.d (.int .i64 u.of),.d (.sl 2 (u.fields.map fldD) false),.d (.sl 3 (u.facts.map leqD) false)],69⟩ (ovS B nix)),nix⟩ (fun k hk=>by simp at hk;omega) ?_ ?_
            ·simp only[hbx',hcb',hO2,rb0,rch,rchl,hwo,hT1.ns.fgt,hT1.ns.fz,hT1.ns.fzb,lA,hj0,hjl,hb0,hbc,true_and,Nat.mul_one,go_sem];exact⟨rfl,sP6 (sP6 qza),sP2 (qqe fun k=>by simp only[go_sem]),qza⟩
            · simp only[go_sem];refine qz5 ?_
              have hxu:x.cells.length=u.fields.length:=by rw[hu];exact hxl
              have hsz:((x.cells.length:Int) != (u.fields.length:Int))=false:=by rw[hxu];simp
              have hsz0:x.cells=[]->((0:Int) != (u.fields.length:Int))=false:=fun e=>by rw[<-hxu,e];rfl
              have hck:(ct.kind==1)=(u.sort==2):=by
               rw[hu];by_cases h:(Lg.tyOf T p).sort=2
               ·rw[h,hxc.2 h];rfl
               · have h1:¬ct.kind=1:=fun e=>h (hxc.1 e)
                 rw[beq_false_of_ne h,beq_false_of_ne h1]
              rcases hcw with⟨hcs,⟨f,rfl⟩|⟨rfl,_⟩⟩|⟨_,R,k,rfl,_⟩
              rotate_right
              · simp only[hO3,rc0,hj0,hjl,lA,true_and,Nat.mul_one,hsz,hxv,hxa,hck,go_sem]
                refine⟨⟨by omega,by omega⟩,⟨j+1,hlt⟩,qzh (sP6 (sP3 qza)) (qqe fun k=>by simp only[go_sem]) qza,?_⟩
                show g.params.length-(j+1)<g.params.length-j
                omega
              all_goals
               have hs0:=hsz0 hcs;simp only[hO3,rc0,hj0,hjl,lA,true_and,Nat.mul_one,hs0,hxv,hxa,hck,go_sem]
               refine⟨⟨by omega,by omega⟩,⟨j+1,hlt⟩,qzh (sP6 (sP3 qza)) (qqe fun k=>by simp only[go_sem]) qza,?_⟩
               show g.params.length-(j+1)<g.params.length-j
               omega
       · refine⟨⟨by omega,by omega⟩,⟨i+1,hlt⟩,qzh (sP5 qza) qza qza,?_⟩
         show G.length-(i+1)<G.length-i
         omega
  ·refine qz8 [] ?_;simp only[go_sem];exact⟨_,nix,qzb (.rfl _),qza,hK⟩
theorem lawNames_OK:OK Tryz.prog 5 (downS trueE):=lawNames_S.down
theorem lawNames_OK_of {l:List UInt8}(_:l.length<=140737488351232)(_:True=True):downS trueE [.d (.st l)] nix (fun x _ _=>x=.d (.bool true)) (fun _ _=>False):=
 ⟨⟨[.st l],rfl⟩,l,rfl,⟨.bool true,rfl⟩,rfl⟩
end Lx
