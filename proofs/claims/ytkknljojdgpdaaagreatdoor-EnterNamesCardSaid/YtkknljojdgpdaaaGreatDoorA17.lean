import Derived.Test.YtkknljojdgpdaaaGreatDoorA16
set_option maxHeartbeats 32000000
set_option linter.unusedSimpArgs false
set_option linter.unusedVariables false
set_option maxRecDepth 20000
namespace Lx
open Go
open Lg (Tok Tree Ty Sym Chk Hp)
open Go.Proofs (Tryz.prog)
open Go.Proofs.Tryz
def zjz (e:Int):D:=.ifc 108 (.ag [.int .i64 e])
def mustES:Spec:=fun ys bx Kr Kp=>∃e:Int,ys=[.d (.int .i64 e)]/\(e=0->Kr (.tup []) nix none)/\(e≠0->Kp (zjz e) nix)
theorem mustE_OK:OK Tryz.prog 59 mustES:=by
 refine fn_OK' qzu (E:=EV) (sp:=spL []) qzt qzl (OKs.ok trivial) func59 rfl ntmps59 results59 call59 [] none ?_;rintro ys bx Kr Kp ⟨e,rfl,h1,h2⟩
 refine⟨[],rfl,trivial,by simp,?_⟩
 simp only[go_sem]
 exact⟨fun h=>h2 (by simpa using h),fun h=>⟨_,.nil,h1 (by simpa using h)⟩⟩
def originS:Spec:=fun ys bx Kr _=>∃m s:Int,ys=[.d (.int .i64 m),.d (.int .i64 s)]/\Kr (.d (.int .i64 (Lg.qx9 m s))) nix none
theorem origin_OK:OK Tryz.prog 60 originS:=by
 refine fn_OK' qzu (E:=EV) (sp:=spL []) qzt qzl (OKs.ok trivial) func60 rfl ntmps60 results60 call60 [] none ?_;rintro ys bx Kr Kp ⟨m,s,rfl,hK⟩
 refine⟨[],rfl,trivial,by simp,?_⟩
 have ne:∀{a b:Int},a≠b->(a==b)=false:=fun h=>by simpa using h
 by_cases h0:s=0
 · subst h0;by_cases h2:m=2
   ·subst h2;simp only[decide_true,Bool.true_and,go_sem];exact⟨_,qzb (.rfl _),hK⟩
   by_cases h3:m=3
   ·subst h3;simp only[decide_true,Bool.true_and,go_sem];exact⟨_,qzb (.rfl _),hK⟩
   by_cases h4:m=4
   ·subst h4;simp only[decide_true,Bool.true_and,go_sem];exact⟨_,qzb (.rfl _),hK⟩
   rw[Lg.qx9,if_pos rfl,if_neg h2,if_neg h3,if_neg h4]at hK;simp only[decide_true,Bool.true_and,ne h2,ne h3,ne h4,Option.map_none,go_sem];exact⟨_,qzb (.rfl _),hK⟩
 by_cases h1:s=1
 · subst h1;by_cases h2:m=2
   ·subst h2;simp only[decide_true,Bool.true_and,go_sem];exact⟨_,qzb (.rfl _),hK⟩
   rw[Lg.qx9,if_neg (by decide),if_pos rfl,if_neg h2]at hK;simp only[decide_true,Bool.true_and,bne,ne h2,go_sem];exact⟨_,qzb (.rfl _),hK⟩
 by_cases h2:s=2
 ·subst h2;simp only[go_sem];exact⟨_,qzb (.rfl _),hK⟩
 rw[Lg.qx9,if_neg h0,if_neg h1,if_neg h2]at hK;simp only[ne h0,ne h1,ne h2,go_sem];exact⟨_,qzb (.rfl _),hK⟩
theorem HpB.upd {bx:Bx}(hN:NS bx){h:Nat}{va fv:D}{vs:List D}{H:Hp}(hA:HpB bx h va fv vs H){vr:Int}{fv':D}{fs:List (Int×Int×Int)}(hf:qvf 3 fv' (fs.map leqD))(hl:fs.length<=100000)(h0:0<=vr)(f:Bx):
  HpB (put (h+1000000) (hbox va vr fv') (ovS bx f)) h va fv' vs ⟨H.chunks,vr,fs⟩/\Frm bx (put (h+1000000) (hbox va vr fv') (ovS bx f)) h ((va::vs).filterMap blk) ((va::vs).filterMap blk):=by
 have key:∀k b,bx (k+1000000)=some b->k≠h->put (h+1000000) (hbox va vr fv') (ovS bx f) (k+1000000)=some b:=fun k b hk hne=>by
  rw[qqr _ _ (by omega)];exact hN.ovs hk
 refine⟨⟨qz7 ..,hf,hl,h0,hA.len,?_,?_,hA.inj⟩,⟨fun k b hk hne _=>key k b hk hne,fun _ h=>.inl h⟩⟩
 · rcases hA.chunks with h|⟨hn,A,c,h1,h2,h3⟩
   ·exact .inl h
   ·exact .inr ⟨hn,A,c,h1,h2,key _ _ h3 fun e=>by subst e;exact absurd (show(some 59:Option Nat)=some 62 from congrArg (Option.map Box.ty) (hA.box.symm.trans h3)) (by decide)⟩
 · intro i c v hc hv
   rcases hA.cells i c v hc hv with h|⟨hn,R,k,h1,h2,h3⟩
   ·exact .inl h
   ·exact .inr ⟨hn,R,k,h1,h2,key _ _ h3 fun e=>by subst e;exact absurd (show(some 59:Option Nat)=some 52 from congrArg (Option.map Box.ty) (hA.box.symm.trans h3)) (by decide)⟩
def stB (h:Nat)(vs bs cs:D):Box:=⟨[.d (ptD h),.d vs,.d bs,.d cs],39⟩
def zwc:Spec:=fun ys bx Kr Kp=>∃h vs bs cs F H,ys=[.bp 1000 0]/\bx 1000=some (stB h vs bs cs)/\HpA bx h F H/\
 match H.fresh with
 |.error e=>Kp (zjz e) (put 1000 (stB h vs bs cs) nix)
 |.ok p=>∀bx',HpA bx' h F p.2->Frm bx bx' h F F->Kr (.d (symD p.1)) (put 1000 (stB h vs bs cs) bx') none
theorem efresh_OK:OKS Tryz.prog 27 zwc:=by
 refine qv8 qzu (E:=EH) (sp:=spL [(13,.c freshS),(59,mustES)]) qzt qzl (OKs.ok ⟨fresh_OK,⟨mustE_OK,trivial⟩⟩) func27 rfl ntmps27 results27 call27 [1000] ?_;rintro ys bx Kr Kp ⟨h,vs,bs,cs,F,H,rfl,hb0,⟨va,fv,us,hA,rfl⟩,hK⟩ hN
 refine⟨by simp only[hb0,stB,go_sem],by simp,?_⟩
 simp only[hb0,stB,hN.fgt,go_sem];refine⟨h,va,H.vars,fv,H.facts,rfl,hN.ovs hA.box,hA.facts,hA.nf,hA.nv,?_⟩;by_cases hc:96<=H.vars\/768<H.facts.length+2
 · have e:H.fresh=.error 22:=by
    unfold Lg.Hp.fresh Lg.Hp.assume Lg.hbnd;by_cases h1:96<=H.vars
    ·rw[if_pos h1]
    ·rw[if_neg h1,if_pos (by rcases hc with h|h;exact absurd h h1;exact h)]
   rw[e]at hK;rw[if_pos hc];simp only[hb0,stB,hbox,symD,Lg.zSym,Lg.nSym,hN.fgt,hN.fz,hN.ov nix,go_sem]
   refine⟨22,rfl,fun e=>absurd e (by decide),fun _=>?_⟩
   simp only[hb0,stB,hbox,symD,Lg.zSym,Lg.nSym,hN.fgt,hN.fz,hN.ov nix,go_sem];exact⟨_,qzd (by simp only[hb0,stB,go_sem]) qza,hK⟩
 · have e:H.fresh=.ok (Lg.nSym H.vars,⟨H.chunks,H.vars+1,H.facts++[(H.vars,0,1099511627776),(0,H.vars,1099511627776)]⟩):=by
    unfold Lg.Hp.fresh Lg.Hp.assume Lg.hbnd;rw[if_neg (fun h=>hc (.inl h))];simp only[lB,lH,Nat.zero_add,Nat.reduceAdd];rw[if_neg (fun h=>hc (.inr h))]
   rw[e]at hK;rw[if_neg hc];intro fv' hfv';simp only[hb0,stB,hbox,symD,Lg.zSym,Lg.nSym,hN.fgt,hN.fz,hN.ov nix,go_sem]
   refine⟨0,rfl,fun _=>?_,fun h=>absurd rfl h⟩
   simp only[hb0,stB,hbox,symD,Lg.zSym,Lg.nSym,hN.fgt,hN.fz,hN.ov nix,go_sem];refine qz8 [] ?_;simp only[hb0,stB,hbox,symD,Lg.zSym,Lg.nSym,hN.fgt,hN.fz,hN.ov nix,go_sem];obtain⟨h1,h2⟩:=hA.upd hN (vr:=H.vars+1) hfv' (by simp;have:=hA.nf;omega) (by have:=hA.nv;omega) nix;exact⟨_,_,qzb (.rfl _),qz6,hK _ ⟨_,_,_,h1,rfl⟩ h2⟩
def zxj:Spec:=fun ys bx Kr Kp=>∃h vs bs cs F H fd,∃fs:List (Int×Int×Int),ys=[.bp 1000 0,.d fd]/\qvf 3 fd (fs.map leqD)/\fs.length<=100000/\bx 1000=some (stB h vs bs cs)/\HpA bx h F H/\
 match H.assume fs with
 |.error e=>Kp (zjz e) (put 1000 (stB h vs bs cs) nix)
 |.ok H'=>∀bx',HpA bx' h F H'->Frm bx bx' h F F->Kr (.tup []) (put 1000 (stB h vs bs cs) bx') none
theorem zkq:OKS Tryz.prog 62 zxj:=by
 refine qv8 qzu (E:=EH) (sp:=spL [(29,.c assumeS),(59,mustES)]) qzt qzl (OKs.ok ⟨assume_OK,⟨mustE_OK,trivial⟩⟩) func62 rfl ntmps62 results62 call62 [1000] ?_;rintro ys bx Kr Kp ⟨h,vs,bs,cs,F,H,fd,fs,rfl,hfd,hl,hb0,⟨va,fv,us,hA,rfl⟩,hK⟩ hN
 refine⟨by simp only[hb0,stB,go_sem],by simp,?_⟩
 simp only[hb0,stB,hN.fgt,go_sem];refine⟨h,va,H.vars,fv,fd,H.facts,fs,rfl,hfd,hN.ovs hA.box,hA.facts,hA.nf,hl,?_⟩;by_cases hc:768<H.facts.length+fs.length
 · rw[Lg.Hp.assume,if_pos hc]at hK;rw[if_pos hc];simp only[hb0,stB,hbox,symD,Lg.zSym,Lg.nSym,hN.fgt,hN.fz,hN.ov nix,go_sem]
   refine⟨22,rfl,fun e=>absurd e (by decide),fun _=>?_⟩
   simp only[hb0,stB,hbox,symD,Lg.zSym,Lg.nSym,hN.fgt,hN.fz,hN.ov nix,go_sem];exact⟨_,qzd (by simp only[hb0,stB,go_sem]) qza,hK⟩
 · rw[Lg.Hp.assume,if_neg hc]at hK;rw[if_neg hc];intro fv' hfv';simp only[hb0,stB,hbox,symD,Lg.zSym,Lg.nSym,hN.fgt,hN.fz,hN.ov nix,go_sem]
   refine⟨0,rfl,fun _=>?_,fun h=>absurd rfl h⟩
   simp only[hb0,stB,hbox,symD,Lg.zSym,Lg.nSym,hN.fgt,hN.fz,hN.ov nix,go_sem];refine qz8 [] ?_;simp only[hb0,stB,hbox,symD,Lg.zSym,Lg.nSym,hN.fgt,hN.fz,hN.ov nix,go_sem];obtain⟨h1,h2⟩:=hA.upd hN (vr:=H.vars) hfv' (by rw[lC];have:=hA.nf;omega) hA.nv nix;exact⟨_,_,.nil,qz6,hK _ ⟨_,_,_,h1,rfl⟩ h2⟩
theorem chk_flat:∀(cs:List Chk) (vs:List D) (b j:Nat) {x:Chk} {v:D},cs[b]?=some x->vs[b]?=some v->j<11->((List.zipWith chkD cs vs).flatMap D.lcs)[b*11+j]?=(chkD x v).lcs[j]?
 |[],_,b,j,x,v,h,_,_=>by simp at h
 |c::cs,[],b,j,x,v,_,h,_=>by simp at h
 |c::cs,w::vs,0,j,x,v,h,h2,hj=>by
  simp only[List.getElem?_cons_zero,Option.some.injEq]at h h2;subst h h2;rw[List.zipWith_cons_cons,List.flatMap_cons,List.getElem?_append_left (by simp[chkD,D.lcs];omega),Nat.zero_mul,Nat.zero_add]
 |c::cs,w::vs,b+1,j,x,v,h,h2,hj=>by
  rw[List.zipWith_cons_cons,List.flatMap_cons,List.getElem?_append_right (by simp[chkD,D.lcs];omega)]
  have e:(b+1)*11+j-(chkD c w).lcs.length=b*11+j:=by simp[chkD,D.lcs];omega
  rw[e];exact chk_flat cs vs b j (by simpa using h) (by simpa using h2) hj
theorem chk_at {cs:List Chk}{vs:List D}{b:Nat}(j k:Nat){x:Chk}{v:D}(h:cs[b]?=some x)(hv:vs[b]?=some v)(hl:vs.length=cs.length)(hj:j<11):(chkB cs vs k).cells[b*11+j]?=(chkD x v).lcs[j]?:=by
 unfold chkB;have hb:=(List.getElem?_eq_some_iff.mp h).1;rw[List.getElem?_append_left (by rw[qvc _ _ hl];omega),chk_flat cs vs b j h hv hj]
theorem NS.of_ov (f:Bx):NS (ovS f nix):=.mk' fun k b h=>by
 unfold ovS at h;split at h
 · rename_i hk
   cases e:f k with
   |none=>rw[e]at h;cases h
   |some b'=>rw[e]at h;cases h;exact⟨by omega,dC_dC _⟩
 ·cases h
theorem qqe {f bx:Bx}(h:∀k,f (k+1000000)=ovS bx nix (k+1000000)):subm f (ovS bx nix):=fun k b hk=>by
 by_cases hh:1000000<=k
 · have:=h (k-1000000)
   rw[show k-1000000+1000000=k by omega]at this
   rw[this,hk]
 ·unfold ovS at hk;rw[if_neg hh]at hk;cases hk
theorem mapf_ov {h:Box->Box}{f:Bx}(hN:mapf h (ovS f nix)=ovS f nix)(g:Bx):mapf h (ovS f g)=ovS f (mapf h g):=by
 funext j
 by_cases hj:1000000<=j
 ·have:=congrFun hN j;simp only[mapf,ovS,if_pos hj]at this⊢;exact this
 ·simp only[mapf,ovS,if_neg hj]
@[go_sem]theorem fgt_ov (d:Nat)(f g:Bx):mapf (Box.fgt d) (ovS f g)=ovS f (mapf (Box.fgt d) g):=mapf_ov ((NS.of_ov f).fgt d) g
@[go_sem]theorem fz_ov (r n:Nat)(x:D)(f g:Bx):mapf (Box.fz r n x) (ovS f g)=ovS f (mapf (Box.fz r n x) g):=mapf_ov ((NS.of_ov f).fz r n x) g
@[go_sem]theorem fzb_ov (d:Nat)(ds:List D)(f g:Bx):mapf (Box.fzb d ds) (ovS f g)=ovS f (mapf (Box.fzb d ds) g):=mapf_ov ((NS.of_ov f).fzb d ds) g
structure NT (B:Bx):Prop where
 ns:NS B
 ov:ovS B nix=B
theorem NT.of (f:Bx):NT (ovS f nix):=⟨.of_ov f,ovS_ov f nix nix⟩
theorem NT.sub {B f:Bx}(hB:NT B)(h:∀k,f (k+1000000)=B (k+1000000)):subm f B:=by
 have:=qqe (bx:=B) (f:=f) fun k=>by rw[hB.ov];exact h k
 rwa [hB.ov]at this
theorem NT.put {B:Bx}(hB:NT B){R:Nat}{b:Box}(hd:dC b.cells=b.cells):NT (put (R+1000000) b B):=by
 have e:∀k x,Lx.put (R+1000000) b B k=some x->1000000<=k/\dC x.cells=x.cells:=by
  intro k x hk;by_cases h:k=R+1000000
  ·subst h;rw[qz7]at hk;cases hk;exact⟨by omega,hd⟩
  · rw[qqr _ _ h]at hk;refine⟨?_,hB.ns.dc _ _ hk⟩;rw[<-hB.ov]at hk;unfold ovS at hk;split at hk
    ·assumption
    ·cases hk
 refine⟨.mk' fun k x hk=>⟨by have:=(e k x hk).1;omega,(e k x hk).2⟩,?_⟩
 funext k
 unfold ovS
 cases hk:Lx.put (R+1000000) b B k with
 |none=>split<;>rfl
 |some x=>
  obtain⟨h1,h2⟩:=e k x hk;rw[if_pos h1];obtain⟨cs,ty⟩:=x;exact congrArg (fun c=>some (Box.mk c ty)) h2
theorem Frm.ov {bx bx':Bx}{h:Nat}{F F':List Nat}(hN:NS bx)(hf:Frm bx bx' h F F')(f:Bx):Frm bx (ovS bx' f) h F F':=
 ⟨fun k b hk hne hF=>by
   have:=hf.keep k b hk hne hF;have hd:=hN.dc _ _ hk;rw[qw7,if_pos (by omega),this];obtain⟨cs,ty⟩:=b
   exact congrArg (fun c=>some (Box.mk c ty)) hd,hf.new⟩
theorem Frm.ov0 {bx:Bx}{h:Nat}{F:List Nat}(hN:NS bx)(f:Bx):Frm bx (ovS bx f) h F F:=Frm.ov hN .refl f
theorem sym_flat:∀(cs:List Sym) (n:Nat) {s:Sym} (r:List LV),cs[n]?=some s->((cs.map symD).flatMap D.lcs++r).drop (n*4)=[LV.d (.int .i64 s.kind),.d (.int .i64 s.var),.d (.int .i64 s.k),.d (.int .i64 s.block)]++(((cs.drop (n+1)).map symD).flatMap D.lcs++r)
 |[],n,s,r,h=>by simp at h
 |c::cs,0,s,r,h=>by
  simp only[List.getElem?_cons_zero,Option.some.injEq]at h;subst h;simp[symD,D.lcs]
 |c::cs,n+1,s,r,h=>by
  rw[List.map_cons,List.flatMap_cons,show(n+1)*4=4+n*4 by omega,<-List.drop_drop,List.append_assoc,show List.drop 4 ((symD c).lcs++((cs.map symD).flatMap D.lcs++r))=(cs.map symD).flatMap D.lcs++r from rfl,sym_flat cs n r (by simpa using h),List.drop_succ_cons]
theorem zk4 {cs:List Sym}{n k:Nat}{s:Sym}(h:cs[n]?=some s):List.take 4 (List.drop (n*4) (symB cs k).cells)=[.d (.int .i64 s.kind),.d (.int .i64 s.var),.d (.int .i64 s.k),.d (.int .i64 s.block)]:=by
 unfold symB;rw[sym_flat cs n _ h];rfl
theorem syms_len:∀cs:List Sym,((cs.map symD).flatMap D.lcs).length=cs.length*4
 |[]=>rfl
 |c::cs=>by rw[List.map_cons,List.flatMap_cons,lC,syms_len cs];simp[symD,D.lcs];omega
theorem sym_len {cs:List Sym}{n k:Nat}(h:n<cs.length):n*4+4<=(symB cs k).cells.length:=by
 unfold symB;rw[lC,syms_len];omega
theorem sym_set:∀(cs:List Sym) (n:Nat) (s:Sym) (r:List LV),n<cs.length->((cs.map symD).flatMap D.lcs++r).take (n*4)++[LV.d (.int .i64 s.kind),.d (.int .i64 s.var),.d (.int .i64 s.k),.d (.int .i64 s.block)]++((cs.map symD).flatMap D.lcs++r).drop (n*4+4)=((cs.set n s).map symD).flatMap D.lcs++r
 |[],n,s,r,h=>by simp at h
 |c::cs,0,s,r,h=>by simp[symD,D.lcs]
 |c::cs,n+1,s,r,h=>by
  have ih:=sym_set cs n s r (by simpa using h)
  have e:∀X:List LV,((symD c).lcs++X).take ((n+1)*4)=(symD c).lcs++X.take (n*4):=fun X=>by
   rw[show(n+1)*4=(symD c).lcs.length+n*4 by simp[symD,D.lcs];omega,List.take_length_add_append]
  have e2:∀X:List LV,((symD c).lcs++X).drop ((n+1)*4+4)=X.drop (n*4+4):=fun X=>by
   rw[show(n+1)*4+4=(symD c).lcs.length+(n*4+4) by simp[symD,D.lcs];omega,List.drop_length_add_append]
  rw[List.map_cons,List.flatMap_cons,List.set_cons_succ,List.map_cons,List.flatMap_cons,List.append_assoc,List.append_assoc,e,e2];simp only[List.append_assoc]at ih⊢;rw[ih]
theorem symB_set {cs:List Sym}{n k:Nat}{s:Sym}(h:n<cs.length):List.take (n*4) (symB cs k).cells++[LV.d (.int .i64 s.kind),.d (.int .i64 s.var),.d (.int .i64 s.k),.d (.int .i64 s.block)]++List.drop (n*4+4) (symB cs k).cells=(symB (cs.set n s) k).cells:=by
 unfold symB;rw[sym_set cs n s _ h,List.length_set]
theorem HpB.setCell {B:Bx}{h:Nat}{va fv:D}{vs:List D}{H:Hp}(hA:HpB B h va fv vs H){b i R k:Nat}{x:Chk}{s:Sym}(hx:H.chunks[b]?=some x)(hv:vs[b]?=some (slD R x.cells.length k))(hR:B (R+1000000)=some (symB x.cells k))(hk:x.cells.length<=k)(hi:i<x.cells.length):
  HpB (put (R+1000000) (symB (x.cells.set i s) k) B) h va fv vs (Lg.setCell H b i s)/\Frm B (put (R+1000000) (symB (x.cells.set i s) k) B) h ((va::vs).filterMap blk) ((va::vs).filterMap blk):=by
 have hbl:=(List.getElem?_eq_some_iff.mp hx).1
 have e:Lg.setCell H b i s={H with chunks:=H.chunks.set b {x with cells:=x.cells.set i s}}:=by rw[Lg.setCell,hx]
 have hRF:R∈(va::vs).filterMap blk:=List.mem_filterMap.mpr ⟨_,List.mem_cons_of_mem _ (List.mem_of_getElem? hv),rfl⟩
 have hRh:h≠R:=fun e=>by subst e;exact absurd (show(some 59:Option Nat)=some 52 from congrArg (Option.map Box.ty) (hA.box.symm.trans hR)) (by decide)
 rw[e]
 refine⟨⟨by rw[qqr _ _ (by omega)];exact hA.box,hA.facts,hA.nf,hA.nv,by simpa using hA.len,?_,?_,hA.inj⟩,⟨fun j y hj hne hF=>by rw[qqr _ _ (fun e=>hF (by rw[show j=R by omega];exact hRF))];exact hj,fun _ h=>.inl h⟩⟩
 · rcases hA.chunks with⟨h,_⟩|⟨hn,A,c,h1,h2,h3⟩
   ·rw[h]at hbl;simp at hbl
   · have hAR:A≠R:=fun e=>by subst e;exact absurd (show(some 62:Option Nat)=some 52 from congrArg (Option.map Box.ty) (h3.symm.trans hR)) (by decide)
     refine .inr ⟨fun h=>hn (by simpa using h),A,c,by simpa using h1,by simpa using h2,?_⟩
     rw[qqr _ _ (by omega),h3]
     congr 1
     unfold chkB
     have:List.zipWith chkD (H.chunks.set b {x with cells:=x.cells.set i s}) vs=List.zipWith chkD H.chunks vs:=by
      apply List.ext_getElem?;intro j;rw[List.getElem?_zipWith,List.getElem?_zipWith];by_cases hj:b=j
      ·subst hj;rw[List.getElem?_set_self hbl,hx,hv];rfl
      ·rw[List.getElem?_set_ne hj]
     simp only[this,List.length_set]
 · intro j c v hc hv2;by_cases hj:b=j
   · subst hj
     have hc:c={x with cells:=x.cells.set i s}:=by
      have:=hc;simp only[List.getElem?_set_self hbl,Option.some.injEq]at this;exact this.symm
     subst hc;rw[hv]at hv2;cases hv2
     exact .inr ⟨fun e=>by have:=congrArg List.length e;simp at this;rw[this]at hi;simp at hi,R,k,by simp,by simpa using hk,qz7 ..⟩
   · have hc:H.chunks[j]?=some c:=by rw[<-hc];simp only[List.getElem?_set_ne hj]
     rcases hA.cells j c v hc hv2 with h|⟨hn,R2,k2,h1,h2,h3⟩
     ·exact .inl h
     ·refine .inr ⟨hn,R2,k2,h1,h2,?_⟩;rw[qqr _ _ (fun e=>hj (hA.inj b j _ v R hv hv2 rfl (by rw[h1,show R2=R by omega];rfl)))];exact h3
theorem Frm.src {B bx' X:Bx}(hN:NS B){h:Nat}{F F':List Nat}(hf:Frm (ovS B X) bx' h F F'):Frm B bx' h F F':=
 ⟨fun k b hk hne hF=>hf.keep k b (hN.ovs hk) hne hF,fun a ha=>(hf.new a ha).imp id fun e=>by rwa [hN.ov_eq]at e⟩
abbrev nilS:D:=.imm (.slice none 0 0)
def recBx (a b c d:D)(e:Int):Bx:=put 1000 ⟨[.d a,.d b,.d c,.d d],39⟩ (put 1001 ⟨[.d (.int .i64 e)],40⟩ nix)
def recB:qkm:=fun m bx K=>∃a b c d e,bx 1000=some ⟨[.d a,.d b,.d c,.d d],39⟩/\bx 1001=some ⟨[.d (.int .i64 e)],40⟩/\
 match m with
 |none=>K (recBx a b c d e)
 |some p=>∃code,p=zjz code/\K (recBx (.imm (.pointer none)) nilS nilS nilS code)
theorem recB_OK:OKD Tryz.prog 26 2 recB:=by
 refine zwh qzu (E:=EV) (sp:=spL []) qzt qzl (OKs.ok trivial) func26 rfl ntmps26 results26 rfl rfl rfl call26 ?_;rintro mo bx K ⟨a,b,c,d,e,h0,h1,hK⟩
 refine⟨[(1000,⟨[.d a,.d b,.d c,.d d],39⟩),(1001,⟨[.d (.int .i64 e)],40⟩)],rfl,⟨by decide,h0,by decide,h1,trivial⟩,by decide,by decide,?_⟩
 refine zvl ?_
 cases mo with
 |none=>
  simp only[go_sem];exact hK
 |some d=>
  obtain⟨code,rfl,hK⟩:=hK;simp only[zjz,go_sem];refine qz9 (wT 1 (wB 0 (wB 2 (wD 3 4 wZ) 3 (wD 2 4 wZ)) 2 (wE 0 3 4 wZ))) ?_;simp only[go_sem]
  repeat' apply And.intro
  all_goals exact hK
def overCS:Spec:=fun ys bx Kr _=>∃v d,∃xs:List Sym,ys=[.d (.int .i64 v),.bp 1000 0]/\bx 1000=some ⟨[.d d],37⟩/\qvf 4 d (xs.map symD)/\0<=v/\v<=xs.length/\xs.length<=100000/\
 Kr (.tup [.d (.int .i64 (Lg.side xs v).1),.d (.int .i64 (Lg.side xs v).2)]) (put 1000 ⟨[.d d],37⟩ nix) none
theorem overC_OK:OK Tryz.prog 117 overCS:=by
 refine fn_OK' qzu (E:=EV) (sp:=spL []) qzt qzl (OKs.ok trivial) func117 rfl ntmps117 results117 call117 [1000] none ?_;rintro ys bx Kr Kp ⟨v,d,xs,rfl,hb,hd,h0,h1,hl,hK⟩
 refine⟨[(1000,⟨[.d d],37⟩)],rfl,⟨by decide,hb,trivial⟩,by simp,?_⟩
 by_cases hv:v=0
 ·subst hv;simp only[go_sem];exact⟨_,.cons (.rfl _) (qzb (.rfl _)),hK⟩
 · obtain⟨f,rfl⟩:∃f,d=.sl 4 (xs.map symD) f:=by
    rcases hd with h|⟨_,h⟩
    ·exact h
    · have:xs=[]:=by simpa using h
      subst this;simp at h1;omega
   have hlt:(v-1).toNat<xs.length:=by omega
   obtain⟨s,hs⟩:∃s,s=xs[(v-1).toNat]:=⟨_,rfl⟩
   have hg:(xs.map symD)[(v-1).toNat]?=some (.ag [.int .i64 s.kind,.int .i64 s.var,.int .i64 s.k,.int .i64 s.block]):=by rw[List.getElem?_map,lD hlt,hs];rfl
   have e:Lg.side xs v=if s.kind=1 then(s.var,s.k)else(0,0):=by rw[Lg.side,if_neg hv,lD hlt,hs]
   rw[e]at hK;simp only[hv,lE,hg,go_sem]
   refine⟨fun h=>absurd (by simpa using h) hv,fun _=>⟨by omega,by omega,by omega,?_⟩⟩
   refine⟨fun hk=>?_,fun hk=>?_⟩
   ·rw[if_neg (by simpa using hk)]at hK;exact⟨_,.cons (.rfl _) (qzb (.rfl _)),hK⟩
   · rw[if_pos (by simpa using hk)]at hK;refine qqo [] [1000] [0,1,2,3,4,5,6,7,8,9,10,11,12,13] .done ⟨28,put 3 (.d (.int .i64 s.var)) (put 4 (.d (.int .i64 s.k)) nix),put 1000 ⟨[.d (.sl 4 (xs.map symD) f)],37⟩ nix,nix⟩ (by decide) ?_ ?_
     · simp only[hv,lE,hg,go_sem]
       exact⟨by omega,by omega,by omega,by omega,by omega,by omega,rfl,sP2 qza,sP1 qza,qza⟩
     ·simp only[go_sem];exact⟨_,.cons (.rfl _) (qzb (.rfl _)),hK⟩
def overS:Spec:=fun ys bx Kr _=>∃fd d,∃facts:List (Int×Int×Int),∃xs:List Sym,ys=[.d fd,.d d]/\qvf 3 fd (facts.map leqD)/\qvf 4 d (xs.map symD)/\facts.length<=100000/\xs.length<=100000/\
 (∀f∈facts,0<=f.1/\f.1<=xs.length/\0<=f.2.1/\f.2.1<=xs.length/\ -1000000000000000000<=f.2.2/\f.2.2<=1000000000000000000)/\(∀s∈xs,s.k=0)/\∀o,qvf 3 o ((Lg.over facts xs).map leqD)->Kr (.d o) nix none
theorem side0 {xs:List Sym}(h:∀s∈xs,s.k=0)(v:Int):(Lg.side xs v).2=0:=by
 unfold Lg.side;split
 ·rfl
 · split
   · rename_i s hs;split
     ·exact h s (List.mem_of_getElem? hs)
     ·rfl
   ·rfl
abbrev EOv:Env:=mkE false (fun j=>j==45) (fun _=>true)
theorem over_OK:OK Tryz.prog 63 overS:=by
 refine fn_OK' qzu (E:=EOv) (sp:=spL [(117,overCS)]) qzt qzl (OKs.ok ⟨overC_OK,trivial⟩) func63 rfl ntmps63 results63 call63 [] none ?_;rintro ys bx Kr Kp ⟨fd,d,facts,xs,rfl,hfd,hd,hl1,hl2,hf,hx,hK⟩
 refine⟨[],rfl,trivial,by simp,?_⟩
 have hp:pcs (.d d)=some [.d d]:=by rcases hd with⟨f,rfl⟩|⟨rfl,_⟩<;>rfl
 have ho:one (.d d)=true:=by rcases hd with⟨f,rfl⟩|⟨rfl,_⟩<;>rfl
 rcases hfd with⟨f,rfl⟩|⟨rfl,hn⟩
 · simp only[lE,hp,ho,go_sem]
   refine qzj (T:={i:Nat //i<=facts.length})
    (fun t=>⟨48,put 5 (.fn (.func 117) [] [.bp 3 0]) (put 6 (owLV 45 3 ((Lg.over (facts.take t.1) xs).map leqD)) (put 14 (.d (.sl 3 (facts.map leqD) f)) (put 15 (.d (.int .i64 facts.length)) (put 16 (.d (.int .i64 t.1)) nix)))),put 3 ⟨[.d d],37⟩ nix,owAr 45 3 71 ((Lg.over (facts.take t.1) xs).map leqD) nix⟩) (fun t=>facts.length-t.1) ⟨0,by simp⟩
    ⟨rfl,sP5 qza,sP1 qza,qza⟩ ?_
   rintro⟨i,hi⟩;obtain⟨os,hos⟩:∃os,os=(Lg.over (facts.take i) xs).map leqD:=⟨_,rfl⟩;dsimp only;rw[<-hos]
   have hlo:os.length=i:=by rw[hos];simp[Lg.over];omega
   have hlo':os.length<=facts.length:=by omega
   have hstep:∀(h:i<facts.length),(Lg.over (facts.take (i+1)) xs).map leqD=os++[.ag [.int .i64 (Lg.side xs facts[i].1).1,.int .i64 (Lg.side xs facts[i].2.1).1,.int .i64 (facts[i].2.2-0+0)]]:=by
    intro h;rw[List.take_add_one,lD h,Lg.over,List.map_append,List.map_append,hos,Lg.over];simp only[Option.toList_some,List.map_cons,List.map_nil,leqD,side0 hx]
   rcases os with _|⟨z,os⟩
   all_goals
    simp only[lE,go_sem]
    refine⟨fun h=>?_,fun h=>?_⟩
    · have hlt:i<facts.length:=by have:=lF h;omega
      obtain⟨b1,b2,b3,b4,b5,b6⟩:=hf _ (List.getElem_mem hlt)
      refine⟨by omega,by omega,?_⟩
      rw[lA,List.getElem?_map,lD hlt];simp only[Option.map_some,leqD];simp only[go_sem];refine⟨_,_,xs,rfl,rfl,hd,b1,b2,hl2,?_⟩;simp only[go_sem];refine⟨_,_,xs,rfl,rfl,hd,b3,b4,hl2,?_⟩;simp only[side0 hx,go_sem]
      try simp only[lB]at hlo hlo'
      repeat' apply And.intro
      all_goals first
       |omega
       |exact⟨⟨i+1,hlt⟩,qzh (sP1 (qzd (by rw[hstep hlt];simp[put,owLV]) (sP3 qza))) (sP1 qza) (qqf (fun _=>by rw[hstep hlt];simp[put]) qza),by show facts.length-(i+1)<facts.length-i;omega⟩
    · have hie:i=facts.length:=by have:=lG h;omega
      rw[hie,List.take_length]at hos
      first
       |exact⟨_,qzb (.rfl _),hK _ (.inr ⟨rfl,hos.symm⟩)⟩
       |exact⟨_,qzb (.rfl _),hK _ (.inl ⟨_,by rw[<-hos]⟩)⟩
 · have hn:facts=[]:=by simpa using hn
   subst hn;simp only[hp,ho,go_sem]
   refine qzj (T:=Unit) (fun _=>⟨48,put 6 (.d (.imm (.slice none 0 0))) (put 15 (.d (.int .i64 0)) (put 16 (.d (.int .i64 0)) nix)),nix,nix⟩) (fun _=>0) () ⟨rfl,sP3 qza,qza,qza⟩ ?_
   rintro⟨⟩;simp only[go_sem]
   exact⟨fun h=>absurd (lF h) (by decide),fun _=>⟨_,qzb (.rfl _),hK _ (.inr ⟨rfl,rfl⟩)⟩⟩
def zvy (H:Hp)(b:Nat):Int:=if(H.chunks[b]?.map Chk.origin).getD 0=3 then 8 else 7
def arraysS:Spec:=fun ys bx Kr Kp=>∃h vs bs cs F H b,∃T:Ty,ys=[.bp 1000 0,.d (symD ⟨2,0,0,(b:Nat)⟩),.d (qqk T)]/\bx 1000=some (stB h vs bs cs)/\HpA bx h F H/\b<H.chunks.length/\
 ((H.chunks[b]?.map Chk.cells).getD []).length=T.fields.length/\(∀f∈T.fields,f.2<T.fields.length)/\T.fields.length<=4096/\H.chunks.length<=1000000/\
 match Lg.qje b (zvy H b) 0 T.fields H with
 |.error e=>Kp (zjz e) (put 1000 (stB h vs bs cs) nix)
 |.ok H'=>∀bx' F',HpA bx' h F' H'->Frm bx bx' h F F'->Kr (.tup []) (put 1000 (stB h vs bs cs) bx') none
theorem arrays_OK:OKS Tryz.prog 64 arraysS:=by
 refine qv8 qzu (E:=EH) (sp:=spL [(61,.c putS),(62,.c zxj)]) qzt qzl (OKs.ok ⟨put_OK,⟨zkq,trivial⟩⟩) func64 rfl ntmps64 results64 call64 [1000] ?_;rintro ys bx Kr Kp ⟨h,ws,bs,cs,F,H,b,T,rfl,hb0,hH,hbl,hcl,hsz,hfl,hcn,hK⟩ hN
 refine⟨by simp only[hb0,stB,go_sem],by simp,?_⟩
 obtain⟨va,fv,us,hA,hF⟩:=id hH;have hb':bx (h+1000000)=some ⟨[.d va,.d (.int .i64 H.vars),.d fv],59⟩:=hA.box
 obtain⟨hc0,A,c,rfl,hcc,hcb⟩:H.chunks≠[]/\∃A c,va=slD A H.chunks.length c/\H.chunks.length<=c/\bx (A+1000000)=some (chkB H.chunks us c):=by
  rcases hA.chunks with⟨h,_⟩|h
  ·rw[h]at hbl;simp at hbl
  ·exact h
 have hcb':bx (A+1000000)=some ⟨(chkB H.chunks us c).cells,62⟩:=hcb;obtain⟨x,hx⟩:∃x,H.chunks[b]?=some x:=⟨_,lD hbl⟩;obtain⟨v,hv⟩:∃v,us[b]?=some v:=⟨_,lD (hA.len▸hbl)⟩;have r0:(chkB H.chunks us c).cells[b*11]?=some (.d (.int .i64 x.origin)):=chk_at 0 c hx hv hA.len (by decide);simp only[hb0,stB,hN.fgt,symD,qqk,go_sem];refine qqo [4] [1000,h+1000000,A+1000000] [0,1,2,3,4,5,6,7,8,9,10,11,12] .done ⟨84,put 0 (.bp 1000 0) (put 4 (.ep (symD ⟨2,0,0,b⟩) 0) (put 5 (.bp 5 0) (put 6 (.d (.int .i64 7)) (put 23 (.d (.bool (x.origin==3))) nix)))),put 1000 (stB h ws bs cs) (put 5 ⟨[.d (.st T.name),.d (.int .i64 T.sort),.d (.int .i64 T.of),.d (.sl 2 (T.fields.map fldD) false),.d (.sl 3 (T.facts.map leqD) false)],69⟩ (ovS bx nix)),nix⟩ (fun k hk=>by simp at hk;omega) ?_ ?_
 · simp only[hb0,hb',hcb',stB,hN.fgt,hN.fz,hN.fzb,lA,r0,symD,go_sem]
   exact⟨by omega,by omega,rfl,sP5 qza,qzd hb0 (sP1 (qqe fun k=>by simp only[hN.ov_eq,go_sem])),qza⟩
 · obtain ⟨kk,hkk⟩:∃kk,kk=zvy H b:=⟨_,rfl⟩
   have hk3:kk=if x.origin=3 then 8 else 7:=by rw[hkk,zvy,hx];rfl
   rw[<-hkk]at hK;simp only[go_sem]
   refine⟨fun h3=>?_,fun h3=>?_⟩
   all_goals
    refine qzj (T:={q:Nat×Hp×List Nat×Bx //NT q.2.2.2/\HpA q.2.2.2 h q.2.2.1 q.2.1/\Frm bx q.2.2.2 h F q.2.2.1/\q.1<=T.fields.length/\q.2.1.chunks.length<=H.chunks.length+q.1/\b<q.2.1.chunks.length/\((q.2.1.chunks[b]?.map Chk.cells).getD []).length=T.fields.length/\Lg.qje b kk 0 T.fields H=Lg.qje b kk q.1 (T.fields.drop q.1) q.2.1})
     (fun q=>⟨84,put 0 (.bp 1000 0) (put 4 (.ep (symD ⟨2,0,0,b⟩) 0) (put 6 (.d (.int .i64 kk)) (put 25 (.d (.sl 2 (T.fields.map fldD) false)) (put 26 (.d (.int .i64 T.fields.length)) (put 27 (.d (.int .i64 q.1.1)) nix))))),put 1000 (stB h ws bs cs) q.1.2.2.2,nix⟩) (fun q=>T.fields.length-q.1.1)
     ⟨(0,H,F,ovS bx nix),NT.of bx,hH.ov nix,.ov0 hN nix,by simp,by simp,hbl,hcl,rfl⟩
     ⟨rfl,sP2 (qzd (by rw[hk3];first|rw[if_pos (by simpa using h3)];rfl|rw[if_neg (by simpa using h3)];rfl) (sP1 (qzd (by simp[put]) (sP1 qza)))),sP1 (qqe fun k=>by simp only[go_sem]),qza⟩ ?_
    rintro⟨⟨i,Hi,Fi,B⟩,g1,g2,g3,g4,g5,g6,g7,g8⟩;have hTB:NT B:=g1;have hNB:=hTB.ns;have hBo:=hTB.ov;have hHB:HpA B h Fi Hi:=g2;have hFB:Frm bx B h F Fi:=g3;have hi:i<=T.fields.length:=g4;have hch:Hi.chunks.length<=H.chunks.length+i:=g5;have hbi:b<Hi.chunks.length:=g6;have hcli:((Hi.chunks[b]?.map Chk.cells).getD []).length=T.fields.length:=g7;have hKi:Lg.qje b kk 0 T.fields H=Lg.qje b kk i (T.fields.drop i) Hi:=g8;dsimp only;clear g1 g2 g3 g4 g5 g6 g7 g8;rw[hKi]at hK;simp only[lE,go_sem]
    refine⟨fun hlt=>?_,fun hlt=>?_⟩
    · have hlt:i<T.fields.length:=by have:=lF hlt;omega
      obtain⟨fl,hfe⟩:∃fl,T.fields[i]=fl:=⟨_,rfl⟩
      have hdr:T.fields.drop i=fl::T.fields.drop (i+1):=by rw[<-hfe];exact List.drop_eq_getElem_cons hlt
      have hfs:=hsz fl (by rw[<-hfe];exact List.getElem_mem hlt)
      refine⟨by omega,by omega,?_⟩
      rw[lA,List.getElem?_map,lD hlt,hfe];simp only[Option.map_some,fldD];rw[hdr,Lg.qje]at hK hKi;simp only[go_sem]
      refine⟨fun hs=>?_,fun hs=>?_⟩
      · have hs:=lF hs;rw[if_pos hs]at hK hKi
        refine⟨by omega,⟨(i+1,Hi,Fi,B),hTB,hHB,hFB,hlt,Nat.le_succ_of_le hch,hbi,hcli,hKi⟩,⟨rfl,sP6 qza,sP1 (hTB.sub fun k=>by simp only[hNB.fgt,go_sem]),qza⟩,by show T.fields.length-(i+1)<T.fields.length-i;omega⟩
      · have hs:=lG hs;rw[if_neg hs]at hK hKi;obtain⟨vi,fvi,ui,hAi,hFi⟩:=id hHB;have hbB:B (h+1000000)=some ⟨[.d vi,.d (.int .i64 Hi.vars),.d fvi],59⟩:=hAi.box
        obtain⟨hn0,Ai,ci,rfl,hcci,hcbi⟩:Hi.chunks≠[]/\∃A c,vi=slD A Hi.chunks.length c/\Hi.chunks.length<=c/\B (A+1000000)=some (chkB Hi.chunks ui c):=by
         rcases hAi.chunks with⟨h,_⟩|h
         ·rw[h]at hbi;simp at hbi
         ·exact h
        have hcB:B (Ai+1000000)=some ⟨(chkB Hi.chunks ui ci).cells,62⟩:=hcbi;obtain⟨xi,hxi⟩:∃x,Hi.chunks[b]?=some x:=⟨_,lD hbi⟩;obtain⟨wi,hwi⟩:∃v,ui[b]?=some v:=⟨_,lD (hAi.len▸hbi)⟩
        have hcl2:xi.cells.length=T.fields.length:=by rw[hxi]at hcli;exact hcli
        obtain⟨hxn,R,k,rfl,hk,hRb⟩:xi.cells≠[]/\∃R c,wi=slD R xi.cells.length c/\xi.cells.length<=c/\B (R+1000000)=some (symB xi.cells c):=by
         rcases hAi.cells b xi wi hxi hwi with⟨h,_⟩|h
         ·rw[h]at hcl2;simp at hcl2;omega
         ·exact h
        have hRB:B (R+1000000)=some ⟨(symB xi.cells k).cells,52⟩:=hRb;have r1:(chkB Hi.chunks ui ci).cells[b*11+10]?=some (.d (slD R xi.cells.length k)):=chk_at 10 ci hxi hwi hAi.len (by decide)
        have hfn:fl.2.toNat<xi.cells.length:=by omega
        obtain⟨sz,hsze⟩:∃sz,xi.cells[fl.2.toNat]=sz:=⟨_,rfl⟩
        have hsg:xi.cells[fl.2.toNat]?=some sz:=by rw[lD hfn,hsze]
        have r2:=zk4 (k:=k) hsg;have r3:=eq_true (sym_len (k:=k) hfn);refine qqo [8] [1000,h+1000000,Ai+1000000,R+1000000] [0,1,2,3,4,5,6,7,8,9,10,11,12,13,14,15] (wD 16 17 wZ) ⟨84,put 0 (.bp 1000 0) (put 4 (.ep (symD ⟨2,0,0,b⟩) 0) (put 6 (.d (.int .i64 kk)) (put 7 (.d (.int .i64 i)) (put 9 (.bp 9 0) (put 25 (.d (.sl 2 (T.fields.map fldD) false)) (put 26 (.d (.int .i64 T.fields.length)) (put 27 (.d (.int .i64 i)) nix))))))),put 9 ⟨[.d (.int .i64 sz.kind),.d (.int .i64 sz.var),.d (.int .i64 sz.k),.d (.int .i64 sz.block)],52⟩ (put 1000 (stB h ws bs cs) B),nix⟩ (fun k hk=>by simp at hk;omega) ?_ ?_
        · simp only[stB,hbB,hcB,hRB,hNB.fgt,hNB.fz,hNB.fzb,lA,r1,symD,r2,r3,go_sem]
          exact⟨by omega,by omega,by omega,by omega,rfl,sP6 (sP2 qza),sP2 (hTB.sub fun k=>by simp only[go_sem]),qza⟩
        simp only[go_sem];obtain⟨ck,hck⟩:∃ck:Chk,ck=⟨kk, -1, -1,true,false,true,sz,[]⟩:=⟨_,rfl⟩
        refine qwd (wT 0 (wT 4 (wC 1 (wT 2 (wC 3 (wB 5 (wB 6 (wB 7 (wD 8 9 wZ) 8 (wD 7 9 wZ)) 8 (wE 6 7 9 wZ)) 8 (wF 5 6 7 9 wZ)) 5 (wC 3 (wB 6 (wB 7 (wD 8 9 wZ) 8 (wD 7 9 wZ)) 8 (wE 6 7 9 wZ)) 6 (wB 3 (wB 7 (wD 8 9 wZ) 8 (wD 7 9 wZ)) 8 (wE 3 7 9 wZ)) 8 (wB 3 (wE 6 7 9 wZ) 6 (wE 3 7 9 wZ))) 8 (wB 3 (wF 5 6 7 9 wZ) 5 (wB 3 (wE 6 7 9 wZ) 6 (wE 3 7 9 wZ))))) 5 (wC 1 (wT 2 (wC 3 (wB 6 (wB 7 (wD 8 9 wZ) 8 (wD 7 9 wZ)) 8 (wE 6 7 9 wZ)) 6 (wB 3 (wB 7 (wD 8 9 wZ) 8 (wD 7 9 wZ)) 8 (wE 3 7 9 wZ)) 8 (wB 3 (wE 6 7 9 wZ) 6 (wE 3 7 9 wZ)))) 6 (wB 1 (wT 2 (wB 3 (wB 7 (wD 8 9 wZ) 8 (wD 7 9 wZ)) 8 (wE 3 7 9 wZ))) 8 (wA 1 (wT 2 (wE 3 7 9 wZ)))) 8 (wB 1 (wT 2 (wB 3 (wE 6 7 9 wZ) 6 (wE 3 7 9 wZ))) 6 (wA 1 (wT 2 (wE 3 7 9 wZ))))) 8 (wB 1 (wT 2 (wB 3 (wF 5 6 7 9 wZ) 5 (wB 3 (wE 6 7 9 wZ) 6 (wE 3 7 9 wZ)))) 5 (wB 1 (wT 2 (wB 3 (wE 6 7 9 wZ) 6 (wE 3 7 9 wZ))) 6 (wA 1 (wT 2 (wE 3 7 9 wZ)))))))) (fun q:{q:Bx×List Nat //NT q.1/\HpA q.1 h q.2 (Hi.put ck).2/\Frm B q.1 h Fi q.2}=>⟨84,put 0 (.bp 1000 0) (put 4 (.ep (symD ⟨2,0,0,b⟩) 0) (put 6 (.d (.int .i64 kk)) (put 7 (.d (.int .i64 i)) (put 9 (.bp 9 0) (put 10 (.bp 10 0) (put 25 (.d (.sl 2 (T.fields.map fldD) false)) (put 26 (.d (.int .i64 T.fields.length)) (put 27 (.d (.int .i64 i)) nix)))))))),put 10 ⟨[.d (.int .i64 2),.d (.int .i64 0),.d (.int .i64 0),.d (.int .i64 Hi.chunks.length)],52⟩ (put 9 ⟨[.d (.int .i64 sz.kind),.d (.int .i64 sz.var),.d (.int .i64 sz.k),.d (.int .i64 sz.block)],52⟩ (put 1000 (stB h ws bs cs) q.1.1)),nix⟩) ?_ ?_
        · simp only[stB,hbB,hNB.fgt,hNB.fz,hNB.fzb,symD,hBo,go_sem]
          repeat' first
           |exact⟨⟨(ovS bx' nix,F'),NT.of bx',q1.ov nix,.ov hNB q2 nix⟩,rfl,sP6 (sP3 qza),sP3 (qqe fun k=>by simp only[go_sem]),qza⟩
           |apply And.intro
           |(refine⟨h,ck,.imm (.slice none 0 0),Fi,Hi,by rw[hck];rfl,.inr ⟨rfl,by rw[hck];rfl⟩,by rw[hck];exact Nat.zero_le _,by omega,hHB,fun bx' F' q1 q2=>?_⟩;simp only[stB,hbB,hNB.fgt,hNB.fz,hNB.fzb,symD,hBo,go_sem])
        rintro⟨⟨B1,F1⟩,hT1,hH1,hF1⟩;dsimp only at hT1 hH1 hF1⊢;have hN1:=hT1.ns;obtain⟨v1,f1,u1,hA1,hFe1⟩:=id hH1;have hb1:B1 (h+1000000)=some ⟨[.d v1,.d (.int .i64 (Hi.put ck).2.vars),.d f1],59⟩:=hA1.box;have hpc:(Hi.put ck).2.chunks=Hi.chunks++[ck]:=rfl
        have hx1:(Hi.put ck).2.chunks[b]?=some xi:=by rw[hpc,List.getElem?_append_left hbi];exact hxi
        have hn1:(Hi.put ck).2.chunks.length=Hi.chunks.length+1:=by rw[hpc];simp
        obtain⟨_,A1,c1,rfl,hcc1,hcb1⟩:(Hi.put ck).2.chunks≠[]/\∃A c,v1=slD A (Hi.put ck).2.chunks.length c/\(Hi.put ck).2.chunks.length<=c/\B1 (A+1000000)=some (chkB (Hi.put ck).2.chunks u1 c):=by
         rcases hA1.chunks with⟨h,_⟩|h
         ·rw[h]at hn1;simp at hn1
         ·exact h
        have hcB1:B1 (A1+1000000)=some ⟨(chkB (Hi.put ck).2.chunks u1 c1).cells,62⟩:=hcb1;obtain⟨w1,hw1⟩:∃v,u1[b]?=some v:=⟨_,lD (by rw[hA1.len];omega)⟩
        obtain⟨R1,k1,rfl,hk1,hRb1⟩:∃R c,w1=slD R xi.cells.length c/\xi.cells.length<=c/\B1 (R+1000000)=some (symB xi.cells c):=by
         rcases hA1.cells b xi w1 hx1 hw1 with⟨h,_⟩|h
         ·exact absurd h hxn
         ·exact h.2
        have hRB1:B1 (R1+1000000)=some ⟨(symB xi.cells k1).cells,52⟩:=hRb1;have r4:(chkB (Hi.put ck).2.chunks u1 c1).cells[b*11+10]?=some (.d (slD R1 xi.cells.length k1)):=chk_at 10 c1 hx1 hw1 hA1.len (by decide)
        have hR1h:¬R1=h:=fun e=>by subst e;exact absurd (show(some 59:Option Nat)=some 52 from congrArg (Option.map Box.ty) (hb1.symm.trans hRB1)) (by decide)
        have hR1A:¬R1=A1:=fun e=>by subst e;exact absurd (show(some 62:Option Nat)=some 52 from congrArg (Option.map Box.ty) (hcB1.symm.trans hRB1)) (by decide)
        have hic:i<xi.cells.length:=by omega
        have r5:=eq_true (sym_len (k:=k1) hic);obtain⟨hA2,hF2⟩:=hA1.setCell hx1 hw1 hRb1 hk1 hic (s:=(Hi.put ck).1);have r6:List.take (i*4) (symB xi.cells k1).cells++[LV.d (.int .i64 2),.d (.int .i64 0),.d (.int .i64 0),.d (.int .i64 Hi.chunks.length)]++List.drop (i*4+4) (symB xi.cells k1).cells=(symB (xi.cells.set i (Hi.put ck).1) k1).cells:=symB_set (k:=k1) (s:=(Hi.put ck).1) hic;obtain⟨B2,hB2⟩:∃B2,B2=put (R1+1000000) (symB (xi.cells.set i (Hi.put ck).1) k1) B1:=⟨_,rfl⟩
        have hT2:NT B2:=by rw[hB2];exact hT1.put (by simp only[symB,zqa,qj7,zq4])
        rw[<-hB2]at hA2 hF2;simp only[go_sem];refine qju (wT 0 (wT 7 (wT 12 (wC 1 (wT 2 (wC 3 (wC 4 (wT 5 (wC 6 (wB 8 (wB 9 (wT 10 (wB 11 (wE 13 14 15 wZ) 13 (wE 11 14 15 wZ))) 13 (wA 9 (wT 10 (wE 11 14 15 wZ)))) 13 (wD 8 9 (wT 10 (wE 11 14 15 wZ)))) 8 (wB 6 (wB 9 (wT 10 (wB 11 (wE 13 14 15 wZ) 13 (wE 11 14 15 wZ))) 13 (wA 9 (wT 10 (wE 11 14 15 wZ)))) 13 (wD 6 9 (wT 10 (wE 11 14 15 wZ)))) 13 (wB 6 (wD 8 9 (wT 10 (wE 11 14 15 wZ))) 8 (wD 6 9 (wT 10 (wE 11 14 15 wZ)))))) 8 (wB 4 (wT 5 (wB 6 (wB 9 (wT 10 (wB 11 (wE 13 14 15 wZ) 13 (wE 11 14 15 wZ))) 13 (wA 9 (wT 10 (wE 11 14 15 wZ)))) 13 (wD 6 9 (wT 10 (wE 11 14 15 wZ))))) 13 (wA 4 (wT 5 (wD 6 9 (wT 10 (wE 11 14 15 wZ)))))) 13 (wB 4 (wT 5 (wB 6 (wD 8 9 (wT 10 (wE 11 14 15 wZ))) 8 (wD 6 9 (wT 10 (wE 11 14 15 wZ))))) 8 (wA 4 (wT 5 (wD 6 9 (wT 10 (wE 11 14 15 wZ))))))) 8 (wB 3 (wB 4 (wT 5 (wB 6 (wB 9 (wT 10 (wB 11 (wE 13 14 15 wZ) 13 (wE 11 14 15 wZ))) 13 (wA 9 (wT 10 (wE 11 14 15 wZ)))) 13 (wD 6 9 (wT 10 (wE 11 14 15 wZ))))) 13 (wA 4 (wT 5 (wD 6 9 (wT 10 (wE 11 14 15 wZ)))))) 13 (wD 3 4 (wT 5 (wD 6 9 (wT 10 (wE 11 14 15 wZ)))))) 13 (wB 3 (wB 4 (wT 5 (wB 6 (wD 8 9 (wT 10 (wE 11 14 15 wZ))) 8 (wD 6 9 (wT 10 (wE 11 14 15 wZ))))) 8 (wA 4 (wT 5 (wD 6 9 (wT 10 (wE 11 14 15 wZ)))))) 8 (wD 3 4 (wT 5 (wD 6 9 (wT 10 (wE 11 14 15 wZ)))))))) 8 (wB 1 (wT 2 (wB 3 (wB 4 (wT 5 (wB 6 (wB 9 (wT 10 (wB 11 (wE 13 14 15 wZ) 13 (wE 11 14 15 wZ))) 13 (wA 9 (wT 10 (wE 11 14 15 wZ)))) 13 (wD 6 9 (wT 10 (wE 11 14 15 wZ))))) 13 (wA 4 (wT 5 (wD 6 9 (wT 10 (wE 11 14 15 wZ)))))) 13 (wD 3 4 (wT 5 (wD 6 9 (wT 10 (wE 11 14 15 wZ))))))) 13 (wA 1 (wT 2 (wD 3 4 (wT 5 (wD 6 9 (wT 10 (wE 11 14 15 wZ)))))))) 13 (wB 1 (wT 2 (wB 3 (wB 4 (wT 5 (wB 6 (wD 8 9 (wT 10 (wE 11 14 15 wZ))) 8 (wD 6 9 (wT 10 (wE 11 14 15 wZ))))) 8 (wA 4 (wT 5 (wD 6 9 (wT 10 (wE 11 14 15 wZ)))))) 8 (wD 3 4 (wT 5 (wD 6 9 (wT 10 (wE 11 14 15 wZ))))))) 8 (wA 1 (wT 2 (wD 3 4 (wT 5 (wD 6 9 (wT 10 (wE 11 14 15 wZ)))))))))))) ⟨84,put 0 (.bp 1000 0) (put 4 (.ep (symD ⟨2,0,0,b⟩) 0) (put 6 (.d (.int .i64 kk)) (put 9 (.bp 9 0) (put 25 (.d (.sl 2 (T.fields.map fldD) false)) (put 26 (.d (.int .i64 T.fields.length)) (put 27 (.d (.int .i64 i)) nix)))))),put 9 ⟨[.d (.int .i64 sz.kind),.d (.int .i64 sz.var),.d (.int .i64 sz.k),.d (.int .i64 sz.block)],52⟩ (put 1000 (stB h ws bs cs) B2),nix⟩ ?_ ?_
        · simp only[stB,hb1,hcB1,hRB1,hN1.fgt,hN1.fz,hN1.fzb,lA,r4,symD,hn1,r5,go_sem]
          repeat' first
           |exact⟨rfl,sP6 (sP1 qza),sP2 (hT2.sub fun j=>by rw[hB2];simp only[r6,go_sem];split<;>rfl),qza⟩
           |apply And.intro
           |omega
        · have hcat:Lg.qxb Hi b fl.2=sz:=by unfold Lg.qxb;rw[hxi];show xi.cells[fl.2.toNat]?.getD Lg.zSym=sz;rw[hsg];rfl
          simp only[hcat,<-hck]at hK hKi;have hH2:HpA B2 h F1 (Lg.setCell (Hi.put ck).2 b i (Hi.put ck).1):=⟨_,_,_,hA2,hFe1⟩;rw[<-hFe1]at hF2;have hF3:Frm bx B2 h F F1:=(hFB.trans hF1 ⟨_,hbB⟩).trans hF2 ⟨_,hb1⟩;simp only[stB,decide_true,hT2.ns.fgt,hT2.ns.fz,hT2.ov,go_sem]
          refine⟨h,ws,bs,cs,F1,_,_,[(0,sz.var,0),(sz.var,0,256)],rfl,.inl ⟨_,rfl⟩,by show 2<=100000;decide,rfl,hH2.ov _,?_⟩
          cases hr:(Lg.setCell (Hi.put ck).2 b i (Hi.put ck).1).assume [(0,sz.var,0),(sz.var,0,256)]with
          |error e=>
           rw[hr]at hK;simp only[stB,hT2.ns.fgt,hT2.ns.fz,hT2.ov,go_sem];exact⟨_,qz6,hK⟩
          |ok H2=>
           rw[hr]at hKi;intro bx' q1 q2;simp only[stB,hT2.ns.fgt,hT2.ns.fz,hT2.ov,go_sem]
           have hc2:H2.chunks=(Lg.setCell (Hi.put ck).2 b i (Hi.put ck).1).chunks:=by
            unfold Lg.Hp.assume at hr;split at hr
            ·cases hr
            ·cases hr;rfl
           have hc3:H2.chunks=(Hi.chunks++[ck]).set b {xi with cells:=xi.cells.set i (Hi.put ck).1}:=by rw[hc2,Lg.setCell,hx1];rfl
           have hbp:b<(Hi.chunks++[ck]).length:=by rw[lC];omega
           refine⟨by omega,⟨(i+1,H2,F1,ovS bx' nix),.of bx',q1.ov nix,hF3.trans (.ov hT2.ns (.src hT2.ns q2) nix) ⟨_,hA2.box⟩,hlt,?_,?_,?_,hKi⟩,⟨rfl,sP6 qza,sP1 (qqe fun k=>by simp only[go_sem]),qza⟩,by show T.fields.length-(i+1)<T.fields.length-i;omega⟩
           · show H2.chunks.length<=H.chunks.length+(i+1)
             rw[hc3,List.length_set,lC];simp;omega
           · show b<H2.chunks.length
             rw[hc3,List.length_set];exact hbp
           · show((H2.chunks[b]?.map Chk.cells).getD []).length=T.fields.length
             rw[hc3,List.getElem?_set_self hbp];simp[hcl2]
    · have hie:i=T.fields.length:=by have:=lG hlt;omega
      rw[hie,List.drop_length,Lg.qje]at hK;refine qz8 [] ?_;simp only[stB,hNB.ov nix,go_sem];exact⟨_,_,.nil,qz6,hK _ Fi (hHB.ov nix) (.ov hN hFB nix)⟩
@[go_sem]theorem mrg_one1 (k:Nat)(B:Box)(f bx:Bx):mrg [k] (put 1000 B f) bx=put k B bx:=by
  rw[<-mrg_one k B bx]
  funext j
  unfold mrg;split
  · rename_i h
    have:j=k:=by simpa using h
    subst this;simp[ixof,put]
  ·rfl
def parD (p:Lg.Par):D:=.ag [.st p.name,.int .i64 p.mode,.int .i64 p.typ]
structure TyOk (T:List Ty)(t:Ty):Prop where
 nf:t.fields.length<=8
 nl:t.facts.length<=100000
 fs:∀f∈t.fields,f.2<t.fields.length
 facts:∀f∈t.facts,0<=f.1/\f.1<=t.fields.length/\0<=f.2.1/\f.2.1<=t.fields.length/\ -1000000000000000000<=f.2.2/\f.2.2<=1000000000000000000
 of23:t.sort=2\/t.sort=3->0<=t.of/\t.of<t.fields.length
 of4:t.sort=4->0<=t.of/\t.of<T.length/\∀u,T[t.of.toNat]?=some u->u.sort=3
 so:0<=t.sort/\t.sort<=4
def seqR:Code->Code
 |.seq _ b=>b
 |c=>c
def ceLV:List D->LV
 |[]=>.d (.sl 4 [] true)
 |x::xs=>.os 54 4 (xs.length+1)
@[go_sem]theorem ceLV_nil:ceLV []=.d (.sl 4 [] true):=(rfl)
@[go_sem]theorem ceLV_cons (x:D)(xs:List D):ceLV (x::xs)=.os 54 4 (xs.length+1):=(rfl)
abbrev spB:FuncId->Option SpecX:=spL [(60,.a originS),(61,.c putS),(27,.c zwc),(63,.a overS),(62,.c zxj),(64,.c arraysS)]
def chB (o num at_:Int)(held:Bool)(c:LV):Box:=⟨[.d (.int .i64 o),.d (.int .i64 num),.d (.int .i64 at_),.d (.bool true),.d (.bool held),.d (.bool false),.d (.int .i64 0),.d (.int .i64 0),.d (.int .i64 0),.d (.int .i64 0),c],62⟩
def tyB (t:Ty):Box:=⟨[.d (.st t.name),.d (.int .i64 t.sort),.d (.int .i64 t.of),.d (.sl 2 (t.fields.map fldD) false),.d (.sl 3 (t.facts.map leqD) false)],69⟩
def zB:Box:=⟨[.d (.int .i64 0),.d (.int .i64 0),.d (.int .i64 0),.d (.int .i64 0)],52⟩
def stR (o num at_:Int)(held:Bool)(t:Ty)(st:Box)(B:Bx):S:=⟨136,put 0 (.bp 1000 0) (put 6 (.bp 6 0) (put 7 (.bp 7 0) (put 8 (.bp 8 0) (put 10 (.bp 10 0) nix)))),put 6 zB (put 7 zB (put 8 (tyB t) (put 10 (chB o num at_ held (ceLV (List.replicate t.fields.length (symD Lg.zSym)))) (put 1000 st B)))),owAr 54 4 52 (List.replicate t.fields.length (symD Lg.zSym)) nix⟩
def _root_.Lg.restR (o num at_:Int)(held:Bool)(ty:Ty)(h:Hp):Lg.HR ((Sym×Sym)×Hp):=
 if o=6/\held=false then
  .ok (((h.put ⟨o,num,at_,true,held,false,Lg.zSym,List.replicate ty.fields.length Lg.zSym⟩).1,Lg.zSym),(h.put ⟨o,num,at_,true,held,false,Lg.zSym,List.replicate ty.fields.length Lg.zSym⟩).2)
 else
  Lg.hbnd (Lg.qk0 (if held then at_ else -1) 0 ty.fields h) fun c=>
  Lg.hbnd (c.2.assume (Lg.over ty.facts c.1)) fun h1=>
  Lg.hbnd (if o=5 then h1.assume [(0,(if o=5 then c.1[at_.toNat]?.getD Lg.zSym else Lg.zSym).var, -1)]else .ok h1) fun h2=>
  Lg.hbnd (Lg.qje h2.chunks.length (if o=3 then 8 else 7) 0 ty.fields (h2.put ⟨o,num,at_,true,held,false,Lg.zSym,c.1⟩).2) fun h3=>.ok (((h2.put ⟨o,num,at_,true,held,false,Lg.zSym,c.1⟩).1,if o=5 then c.1[at_.toNat]?.getD Lg.zSym else Lg.zSym),h3)
theorem blockR_eq {p:Lg.Par}{T:List Ty}{H:Hp}{t u:Ty}(ht:Lg.tyAt T p.typ=t)(hu:(if t.sort=4 then Lg.tyAt T t.of else t)=u):
  Lg.zkz p T H=Lg.restR (Lg.qx9 p.mode t.sort) (if t.sort=4 then t.of else p.typ) (if u.sort=2\/u.sort=3 then u.of else -1) (t.sort==4) u H:=by
 subst hu ht;by_cases h:(Lg.tyAt T p.typ).sort=4
 ·simp only[Lg.zkz,Lg.restR,h,beq_self_eq_true,if_true]
 · have h':((Lg.tyAt T p.typ).sort==4)=false:=by simpa using h
   simp only[Lg.zkz,Lg.restR,h,h',if_false,Bool.false_eq_true]
theorem _root_.Lx.Frm.srcO {b1 bx' X:Bx}{h:Nat}{F F':List Nat}(hf:Frm (ovS b1 X) bx' h F F'):Frm (ovS b1 nix) bx' h F F':=
 have e:∀k,ovS b1 X (k+1000000)=ovS b1 nix (k+1000000):=fun k=>by rw[qw7,qw7,if_pos (by omega),if_pos (by omega)]
 ⟨fun k b hk hne hF=>hf.keep k b ((e k).trans hk) hne hF,fun a ha=>(hf.new a ha).imp id fun q=>(e a).symm.trans q⟩
theorem ce_ne:∀{xs:List D},xs≠[]->ceLV xs=.os 54 4 xs.length
 |[],h=>absurd rfl h
 |_::_,_=>rfl
theorem fresh_ok {H:Hp}{p:Sym×Hp}(h:H.fresh=.ok p):p.2.chunks=H.chunks/\p.1.k=0:=by
 unfold Lg.Hp.fresh at h;split at h
 ·cases h
 · unfold Lg.Hp.assume at h;split at h
   ·cases h
   ·cases h;exact⟨rfl,rfl⟩
theorem qwv {o num at_:Int}{held:Bool}{t:Ty}{st:Box}{B:Bx}{Kr:LV->Bx->Ar1->Prop}{Kp:D->Bx->Prop}{h:Nat}{ws bs cs:D}{F:List Nat}{H:Hp}(hst:st=stB h ws bs cs)(hTB:NT B)(hHB:HpA B h F H)(hcn:H.chunks.length<=100000)(hnf:t.fields.length<=8)(hnl:t.facts.length<=100000)(hfs:∀f∈t.fields,f.2<t.fields.length)
  (hfa:∀f∈t.facts,0<=f.1/\f.1<=t.fields.length/\0<=f.2.1/\f.2.1<=t.fields.length/\ -1000000000000000000<=f.2.2/\f.2.2<=1000000000000000000)(hat:o=5->0<=at_/\at_<t.fields.length)
  (hK:match Lg.restR o num at_ held t H with
    |.error e=>Kp (zjz e) (put 1000 (stB h ws bs cs) nix)
    |.ok r=>∀bx' F',HpA bx' h F' r.2->Frm B bx' h F F'->Kr (.tup [.d (symD r.1.1),.d (symD r.1.2)]) (put 1000 (stB h ws bs cs) bx') none):
  cK EH spB (seqR (seqR (seqR (seqR (seqR (seqR (f28.body.getD .skip))))))) (stR o num at_ held t st B) (endKS EH [.cell 6 52,.cell 7 52] [1000] Kr) (panS [1000] Kp):=by
 simp only[f28,seqR,Option.getD_some];subst hst;unfold stR chB tyB zB;have hNB:=hTB.ns;have hBo:=hTB.ov;obtain⟨zs,hzs⟩:∃zs,zs=List.replicate t.fields.length (symD Lg.zSym):=⟨_,rfl⟩
 have hzm:(List.replicate t.fields.length Lg.zSym).map symD=zs:=by rw[List.map_replicate,hzs]
 have hzl:zs.length=t.fields.length:=by rw[hzs,List.length_replicate]
 by_cases h6:o=6/\held=false
 · rw[Lg.restR,if_pos h6]at hK;obtain⟨rfl,rfl⟩:=h6;obtain⟨ck,hck⟩:∃ck:Chk,ck=⟨6,num,at_,true,false,false,Lg.zSym,List.replicate t.fields.length Lg.zSym⟩:=⟨_,rfl⟩;rw[<-hck]at hK;rw[<-hzs]
   rcases zs with _|⟨z,zs⟩
   all_goals
    simp only[go_sem];refine qwd (wT 0 (wC 1 (wT 2 (wC 3 (wB 4 (wB 5 (wB 6 (wD 7 8 wZ) 7 (wD 6 8 wZ)) 6 (wE 5 7 8 wZ)) 6 (wF 4 5 7 8 wZ)) 4 (wB 3 (wB 5 (wB 6 (wD 7 8 wZ) 7 (wD 6 8 wZ)) 6 (wE 5 7 8 wZ)) 6 (wF 3 5 7 8 wZ)) 6 (wB 3 (wF 4 5 7 8 wZ) 4 (wF 3 5 7 8 wZ)))) 4 (wB 1 (wT 2 (wB 3 (wB 5 (wB 6 (wD 7 8 wZ) 7 (wD 6 8 wZ)) 6 (wE 5 7 8 wZ)) 6 (wF 3 5 7 8 wZ))) 6 (wA 1 (wT 2 (wF 3 5 7 8 wZ)))) 6 (wB 1 (wT 2 (wB 3 (wF 4 5 7 8 wZ) 4 (wF 3 5 7 8 wZ))) 4 (wA 1 (wT 2 (wF 3 5 7 8 wZ)))))) (fun q:{q:Bx×List Nat //NT q.1/\HpA q.1 h q.2 (H.put ck).2/\Frm B q.1 h F q.2}=>⟨136,put 6 (.bp 6 0) (put 7 (.bp 7 0) nix),put 6 ⟨[.d (.int .i64 2),.d (.int .i64 0),.d (.int .i64 0),.d (.int .i64 H.chunks.length)],52⟩ (put 7 ⟨[.d (.int .i64 0),.d (.int .i64 0),.d (.int .i64 0),.d (.int .i64 0)],52⟩ (put 1000 (stB h ws bs cs) q.1.1)),nix⟩) ?_ ?_
    · simp only[stB,hNB.fgt,hNB.fz,symD,hBo,go_sem]
      repeat' first
       |exact⟨⟨(ovS bx' nix,F'),NT.of bx',q1.ov nix,.ov hNB q2 nix⟩,rfl,sP2 qza,sP3 (qqe fun k=>by simp only[go_sem]),qza⟩
       |apply And.intro
       |(refine⟨h,ck,_,F,H,by rw[hck];rfl,.inl ⟨_,by rw[hck];rw[hzm]⟩,by rw[hck,List.length_replicate];omega,by omega,hHB,fun bx' F' q1 q2=>?_⟩;simp only[stB,hNB.fgt,hNB.fz,symD,hBo,go_sem])
    ·rintro⟨⟨B1,F1⟩,hT1,hH1,hF1⟩;dsimp only at hT1 hH1 hF1⊢;simp only[go_sem];refine qz8 [] ?_;simp only[stB,go_sem];exact⟨_,_,.cons (.rfl _) (qzb (.rfl _)),qz6,hK _ _ (hH1.ov nix) (.ov hNB hF1 nix)⟩
 · rw[Lg.restR,if_neg h6]at hK;rw[<-hzs]
   have h6':∀b:Bool,(o==6)=true->b=held->b=true:=fun b h e=>by
    cases held with
    |true=>exact e
    |false=>exact absurd ⟨by simpa using h,rfl⟩ h6
   obtain⟨out,hout⟩:∃out,out=(if held then at_ else -1):=⟨_,rfl⟩;rw[<-hout]at hK;have hF0:Frm B B h F F:=.refl
   have hck:Lg.qk0 out 0 t.fields H=Lg.hbnd (Lg.qk0 out 0 (t.fields.drop 0) H) fun r=>.ok ([]++r.1,r.2):=by
    rw[List.drop_zero];cases Lg.qk0 out 0 t.fields H<;>rfl
   simp only[go_sem]
   refine⟨fun h1=>⟨fun h2=>?_,fun h2=>absurd ⟨by simpa using h1,h2⟩ h6⟩,fun h1=>?_⟩
   all_goals
    refine qzj (T:={q:Nat×Hp×List Sym×Bx //NT q.2.2.2/\HpA q.2.2.2 h F q.2.1/\Frm B q.2.2.2 h F F/\q.1<=t.fields.length/\q.2.1.chunks=H.chunks/\q.2.2.1.length=q.1/\(∀s∈q.2.2.1,s.k=0)/\Lg.qk0 out 0 t.fields H=Lg.hbnd (Lg.qk0 out q.1 (t.fields.drop q.1) q.2.1) fun r=>.ok (q.2.2.1++r.1,r.2)})
     (fun q=>⟨136,put 0 (.bp 1000 0) (put 6 (.bp 6 0) (put 7 (.bp 7 0) (put 8 (.bp 8 0) (put 10 (.bp 10 0) (put 73 (.d (.sl 2 (t.fields.map fldD) false)) (put 74 (.d (.int .i64 t.fields.length)) (put 75 (.d (.int .i64 q.1.1)) nix))))))),put 6 zB (put 7 zB (put 8 (tyB t) (put 10 (chB o num at_ held (ceLV (q.1.2.2.1.map symD++List.replicate (t.fields.length-q.1.1) (symD Lg.zSym)))) (put 1000 (stB h ws bs cs) q.1.2.2.2)))),owAr 54 4 52 (q.1.2.2.1.map symD++List.replicate (t.fields.length-q.1.1) (symD Lg.zSym)) nix⟩) (fun q=>t.fields.length-q.1.1)
     ⟨(0,H,[],B),hTB,hHB,hF0,by simp,rfl,rfl,by simp,hck⟩
     ⟨rfl,sP6 (sP2 qza),sP3 (qzd (by rw[hzs];rfl) (sP1 (hTB.sub fun k=>by simp only[go_sem]))),by rw[hzs];exact fun _ _ h=>h⟩ ?_
    rintro⟨⟨i,Hi,dn,Bi⟩,g1,g2,g3,g4,g5,g6,g7,g8⟩;have hTi:NT Bi:=g1;have hHi:HpA Bi h F Hi:=g2;have hFi:Frm B Bi h F F:=g3;have hi:i<=t.fields.length:=g4;have hch:Hi.chunks=H.chunks:=g5;have hdl:dn.length=i:=g6;have hdk:∀s∈dn,s.k=0:=g7
    have hci:Lg.qk0 out 0 t.fields H=Lg.hbnd (Lg.qk0 out i (t.fields.drop i) Hi) fun r=>.ok (dn++r.1,r.2):=g8
    dsimp only;clear g1 g2 g3 g4 g5 g6 g7 g8;have hNi:=hTi.ns;have hBi:=hTi.ov;obtain⟨ds,hds⟩:∃ds,ds=dn.map symD++List.replicate (t.fields.length-i) (symD Lg.zSym):=⟨_,rfl⟩
    have hdsl:ds.length=t.fields.length:=by rw[hds];simp;omega
    rw[<-hds];unfold tyB chB zB
    rcases ds with _|⟨d0,ds⟩
    · simp only[lE,go_sem]
      refine⟨fun hlt=>?_,fun hlt=>?_⟩
      ·exfalso;have:=lF hlt;simp only[lH]at hdsl;omega
      · have hie:i=t.fields.length:=by have:=lG hlt;omega
        rw[hie,List.drop_length,Lg.qk0]at hci
        have hci2:Lg.qk0 out 0 t.fields H=.ok (dn,Hi):=by rw[hci];show Except.ok (dn++[],Hi)=_;rw[List.append_nil]
        rw[hci2]at hK;rw[hie,Nat.sub_self,List.replicate_zero,List.append_nil]at hds;rw[hie]at hdl;simp only[Lg.hbnd]at hK
        refine⟨_,_,t.facts,dn,rfl,.inl ⟨_,rfl⟩,.inl ⟨_,by rw[<-hds]⟩,hnl,by omega,by rw[hdl];exact hfa,hdk,fun ov hov=>?_⟩
        simp only[stB,hNi.fgt,hNi.fz,hBi,decide_true,go_sem]
        refine⟨h,ws,bs,cs,F,Hi,ov,Lg.over t.facts dn,rfl,hov,by rw[Lg.over,lE];exact hnl,rfl,hHi.ov _,?_⟩
        cases hr:Hi.assume (Lg.over t.facts dn)with
        |error e=>
         rw[hr]at hK;simp only[stB,hNi.fgt,hNi.fz,hBi,go_sem];exact⟨_,qz6,hK⟩
        |ok H1=>
         rw[hr]at hK;intro bx1 q1 q2
         obtain⟨hbx,hbox⟩:∃x,Bi (h+1000000)=some x:=by obtain⟨_,_,_,hx,_⟩:=hHi;exact⟨_,hx.box⟩
         have hF1:Frm B (ovS bx1 nix) h F F:=hFi.trans (.ov hNi (.src hNi q2) nix) ⟨_,hbox⟩;have hH1:HpA (ovS bx1 nix) h F H1:=q1.ov nix
         have hc1:H1.chunks=H.chunks:=by
          unfold Lg.Hp.assume at hr;split at hr
          ·cases hr
          ·cases hr;exact hch
         simp only[stB,hNi.fgt,hNi.fz,hBi,go_sem]
         refine⟨fun h5=>?_,fun h5=>?_⟩
         ·exfalso;have:=hat (by simpa using h5);simp only[lH]at hdsl;omega
         · have h5:¬o=5:=by simpa using h5
           rw[if_neg h5]at hK;simp only[if_neg h5]at hK;obtain⟨ck,hckd⟩:∃ck:Chk,ck=⟨o,num,at_,true,held,false,Lg.zSym,dn⟩:=⟨_,rfl⟩;rw[<-hckd]at hK
           refine qwd (wT 0 (wC 1 (wT 2 (wC 3 (wB 4 (wB 5 (wD 6 7 wZ) 6 (wD 5 7 wZ)) 6 (wE 4 5 7 wZ)) 4 (wB 3 (wB 5 (wD 6 7 wZ) 6 (wD 5 7 wZ)) 6 (wE 3 5 7 wZ)) 6 (wB 3 (wE 4 5 7 wZ) 4 (wE 3 5 7 wZ)))) 4 (wB 1 (wT 2 (wB 3 (wB 5 (wD 6 7 wZ) 6 (wD 5 7 wZ)) 6 (wE 3 5 7 wZ))) 6 (wA 1 (wT 2 (wE 3 5 7 wZ)))) 6 (wB 1 (wT 2 (wB 3 (wE 4 5 7 wZ) 4 (wE 3 5 7 wZ))) 4 (wA 1 (wT 2 (wE 3 5 7 wZ)))))) (fun q:{q:Bx×List Nat //NT q.1/\HpA q.1 h q.2 (H1.put ck).2/\Frm B q.1 h F q.2}=>⟨136,put 0 (.bp 1000 0) (put 6 (.bp 6 0) (put 7 (.bp 7 0) (put 8 (.bp 8 0) (put 13 (.bp 13 0) (put 14 (.bp 14 0) nix))))),put 6 ⟨[.d (.int .i64 0),.d (.int .i64 0),.d (.int .i64 0),.d (.int .i64 0)],52⟩ (put 7 ⟨[.d (.int .i64 0),.d (.int .i64 0),.d (.int .i64 0),.d (.int .i64 0)],52⟩ (put 8 (tyB t) (put 13 ⟨[.d (.int .i64 0),.d (.int .i64 0),.d (.int .i64 0),.d (.int .i64 0)],52⟩ (put 14 ⟨[.d (.int .i64 2),.d (.int .i64 0),.d (.int .i64 0),.d (.int .i64 H1.chunks.length)],52⟩ (put 1000 (stB h ws bs cs) q.1.1))))),nix⟩) ?_ ?_
           · simp only[stB,hNi.fgt,hNi.fz,symD,hBi,go_sem]
             repeat' first
              |exact⟨⟨(ovS bx' nix,F'),.of bx',p1.ov nix,hF1.trans (.ov (.of_ov bx1) (.srcO p2) nix) (by obtain⟨_,_,_,hx,_⟩:=hH1;exact⟨_,hx.box⟩)⟩,rfl,sP6 qza,sP6 (qqe fun k=>by simp only[go_sem]),qza⟩
              |apply And.intro
              |(refine⟨h,ck,_,F,H1,by rw[hckd];rfl,.inl ⟨_,by rw[hckd];rw[<-hds]⟩,by rw[hckd];show dn.length<=_;omega,by rw[hc1];omega,q1.ov _,fun bx' F' p1 p2=>?_⟩;simp only[stB,hNi.fgt,hNi.fz,symD,hBi,go_sem])
           · rintro⟨⟨B3,F3⟩,hT3,hH3,hF3⟩;dsimp only at hT3 hH3 hF3⊢;unfold tyB;simp only[stB,hT3.ns.fgt,hT3.ns.fz,hT3.ov,decide_true,go_sem]
             have hkA:zvy (H1.put ck).2 H1.chunks.length=if o=3 then 8 else 7:=by
              unfold zvy
              show(if(((H1.chunks++[ck])[H1.chunks.length]?).map Chk.origin).getD 0=3 then(8:Int)else 7)=_
              simp[hckd]
             have hbox3:∃x,B3 (h+1000000)=some x:=by obtain⟨_,_,_,hx,_⟩:=hH3;exact⟨_,hx.box⟩
             refine⟨h,ws,bs,cs,F3,(H1.put ck).2,H1.chunks.length,t,rfl,rfl,hH3.ov _,by show _<(H1.chunks++[ck]).length;simp,by show((((H1.chunks++[ck])[H1.chunks.length]?).map Chk.cells).getD []).length=_;simp[hckd,hdl],hfs,by omega,by show(H1.chunks++[ck]).length<=_;rw[lC,hc1];simp;omega,?_⟩
             rw[hkA]
             cases hr2:Lg.qje H1.chunks.length (if o=3 then 8 else 7) 0 t.fields (H1.put ck).2 with
             |error e=>
              rw[hr2]at hK;simp only[stB,hT3.ns.fgt,hT3.ns.fz,hT3.ov,go_sem];exact⟨_,qz6,hK⟩
             |ok H3=>
              rw[hr2]at hK;intro bx4 F4 p1 p2;simp only[stB,hT3.ns.fgt,hT3.ns.fz,hT3.ov,go_sem];refine qju (wB 0 (wB 1 (wD 2 3 wZ) 2 (wD 1 3 wZ)) 1 (wE 0 2 3 wZ)) ⟨136,put 6 (.bp 6 0) (put 7 (.bp 7 0) nix),put 6 ⟨[.d (.int .i64 2),.d (.int .i64 0),.d (.int .i64 0),.d (.int .i64 H1.chunks.length)],52⟩ (put 7 ⟨[.d (.int .i64 0),.d (.int .i64 0),.d (.int .i64 0),.d (.int .i64 0)],52⟩ (put 1000 (stB h ws bs cs) (ovS bx4 nix))),nix⟩ ?_ ?_
              · simp only[go_sem]
                repeat' first
                 |exact⟨rfl,sP2 qza,sP3 (qqe fun k=>by simp only[go_sem]),qza⟩
                 |apply And.intro
              ·simp only[go_sem];refine qz8 [] ?_;simp only[stB,go_sem];exact⟨_,_,.cons (.rfl _) (qzb (.rfl _)),qz6,hK _ _ (p1.ov nix) (hF3.trans (.ov hT3.ns (.src hT3.ns p2) nix) hbox3)⟩
    · simp only[lE,go_sem]
      refine⟨fun hlt=>?_,fun hlt=>?_⟩
      · have hlt:i<t.fields.length:=by have:=lF hlt;omega
        obtain⟨fl,hfe⟩:∃fl,t.fields[i]=fl:=⟨_,rfl⟩
        have hdr:t.fields.drop i=fl::t.fields.drop (i+1):=by rw[<-hfe];exact List.drop_eq_getElem_cons hlt
        refine⟨by omega,by omega,?_⟩
        rw[lA,List.getElem?_map,lD hlt,hfe];simp only[Option.map_some,fldD];rw[hdr,Lg.qk0]at hci
        have hrep:List.replicate (t.fields.length-i) (symD Lg.zSym)=symD Lg.zSym::List.replicate (t.fields.length-(i+1)) (symD Lg.zSym):=by
         rw[show t.fields.length-i=t.fields.length-(i+1)+1 by omega,List.replicate_succ]
        have hdz:(dn++[Lg.zSym]).map symD++List.replicate (t.fields.length-(i+1)) (symD Lg.zSym)=d0::ds:=by
         rw[hds,hrep,List.map_append,List.append_assoc];rfl
        have hdset:∀s,(d0::ds).set i (symD s)=(dn++[s]).map symD++List.replicate (t.fields.length-(i+1)) (symD Lg.zSym):=fun s=>by
         rw[hds,hrep,List.set_append_right _ _ (by rw[lE];omega),lE,hdl,Nat.sub_self,List.set_cons_zero,List.map_append,List.append_assoc];rfl
        have skip:¬(fl.2<0/\¬(i:Int)=out)->Lg.qk0 out 0 t.fields H=Lg.hbnd (Lg.qk0 out (i+1) (t.fields.drop (i+1)) Hi) fun r=>.ok ((dn++[Lg.zSym])++r.1,r.2):=fun hc=>by
         rw[hci,if_neg hc]
         cases Lg.qk0 out (i+1) (t.fields.drop (i+1)) Hi with
         |error e=>rfl
         |ok r=>show Except.ok (dn++Lg.zSym::r.1,r.2)=Except.ok (dn++[Lg.zSym]++r.1,r.2);rw[List.append_assoc];rfl
        have SK:∀(hc:¬(fl.2<0/\¬(i:Int)=out)),(∀s∈dn++[Lg.zSym],s.k=0)/\(dn++[Lg.zSym]).length=i+1:=fun _=>⟨fun s hs=>by
         rcases List.mem_append.mp hs with h|h
         ·exact hdk s h
         ·rw[List.mem_singleton.mp h];rfl,by simp[hdl]⟩
        simp only[go_sem]
        refine⟨fun g1=>⟨fun g2=>⟨fun g3=>?_,fun g3=>?_⟩,fun g2=>?_⟩,fun g1=>?_⟩
        rotate_left 3
        · have hc:¬(fl.2<0/\¬(i:Int)=out):=fun h=>absurd h.1 (lG g1)
          exact⟨by omega,⟨(i+1,Hi,dn++[Lg.zSym],Bi),hTi,hHi,hFi,hlt,hch,(SK hc).2,(SK hc).1,skip hc⟩,⟨rfl,sP6 (sP2 qza),sP3 (qzd (by show _=some (chB o num at_ held (ceLV ((dn++[Lg.zSym]).map symD++List.replicate (t.fields.length-(i+1)) (symD Lg.zSym))));rw[hdz];rfl) (sP1 (hTi.sub fun k=>by simp only[hNi.fgt,go_sem]))),by show subm _ (owAr 54 4 52 ((dn++[Lg.zSym]).map symD++List.replicate (t.fields.length-(i+1)) (symD Lg.zSym)) nix);rw[hdz];exact fun _ _ h=>h⟩,by show t.fields.length-(i+1)<t.fields.length-i;omega⟩
        · have hc:¬(fl.2<0/\¬(i:Int)=out):=fun h=>h.2 (by rw[hout,if_pos g2];simpa using g3)
          exact⟨by omega,⟨(i+1,Hi,dn++[Lg.zSym],Bi),hTi,hHi,hFi,hlt,hch,(SK hc).2,(SK hc).1,skip hc⟩,⟨rfl,sP6 (sP2 qza),sP3 (qzd (by show _=some (chB o num at_ held (ceLV ((dn++[Lg.zSym]).map symD++List.replicate (t.fields.length-(i+1)) (symD Lg.zSym))));rw[hdz];rfl) (sP1 (hTi.sub fun k=>by simp only[hNi.fgt,go_sem]))),by show subm _ (owAr 54 4 52 ((dn++[Lg.zSym]).map symD++List.replicate (t.fields.length-(i+1)) (symD Lg.zSym)) nix);rw[hdz];exact fun _ _ h=>h⟩,by show t.fields.length-(i+1)<t.fields.length-i;omega⟩
        all_goals
         have hc:fl.2<0/\¬(i:Int)=out:=⟨lF g1,by first|(rw[hout,if_pos g2];simpa using g3)|(rw[hout,g2,if_neg (by decide)];omega)⟩
         rw[if_pos hc]at hci
         cases hr:Hi.fresh with
         |error e=>
          rw[hr]at hci;rw[hci]at hK;refine qz9 (wT 0 (wT 2 (wT 3 (wB 1 (wE 4 5 6 wZ) 4 (wE 1 5 6 wZ))))) ?_;simp only[stB,hNi.fgt,hNi.fz,hBi,decide_true,go_sem]
          repeat' first
           |apply And.intro
           |(refine⟨h,ws,bs,cs,F,Hi,rfl,rfl,hHi.ov _,?_⟩;rw[hr];simp only[stB,hNi.fgt,hNi.fz,hBi,go_sem];exact⟨_,qz6,hK⟩)
         |ok pr=>
          rw[hr]at hci;obtain⟨hpc,hpk⟩:=fresh_ok hr
          have hcn2:Lg.qk0 out 0 t.fields H=Lg.hbnd (Lg.qk0 out (i+1) (t.fields.drop (i+1)) pr.2) fun r=>.ok ((dn++[pr.1])++r.1,r.2):=by
           rw[hci]
           show Lg.hbnd (Lg.hbnd (Lg.qk0 out (i+1) (t.fields.drop (i+1)) pr.2) fun q=>.ok (pr.1::q.1,q.2)) _=_
           cases Lg.qk0 out (i+1) (t.fields.drop (i+1)) pr.2 with
           |error e=>rfl
           |ok r=>show Except.ok (dn++pr.1::r.1,r.2)=Except.ok (dn++[pr.1]++r.1,r.2);rw[List.append_assoc];rfl
          have hne:(d0::ds).set i (symD pr.1)≠[]:=fun e=>by have:=congrArg List.length e;simp at this
          have hsl:((d0::ds).set i (symD pr.1)).length=ds.length+1:=by rw[List.length_set];rfl
          have hdl1:ds.length+1=t.fields.length:=hdsl
          obtain⟨hbx,hbox⟩:∃x,Bi (h+1000000)=some x:=by obtain⟨_,_,_,hx,_⟩:=hHi;exact⟨_,hx.box⟩
          refine qz9 (wT 0 (wT 2 (wT 3 (wB 1 (wE 4 5 6 wZ) 4 (wE 1 5 6 wZ))))) ?_;simp only[stB,hNi.fgt,hNi.fz,hBi,decide_true,go_sem]
          repeat' first
           |omega
           |rfl
           |exact⟨⟨(i+1,pr.2,dn++[pr.1],ovS bx' nix),.of bx',q1.ov nix,hFi.trans (.ov hNi (.src hNi q2) nix) ⟨_,hbox⟩,hlt,hpc.trans hch,by simp[hdl],fun s hs=>(List.mem_append.mp hs).elim (hdk s) fun h=>by rw[List.mem_singleton.mp h];exact hpk,hcn2⟩,⟨rfl,sP6 (sP2 qza),sP3 (qzd (by show _=some (chB o num at_ held (ceLV ((dn++[pr.1]).map symD++List.replicate (t.fields.length-(i+1)) (symD Lg.zSym))));rw[<-hdset pr.1,ce_ne hne,hsl];rfl) (sP1 (qqe fun k=>by simp only[go_sem]))),by show subm _ (owAr 54 4 52 ((dn++[pr.1]).map symD++List.replicate (t.fields.length-(i+1)) (symD Lg.zSym)) nix);rw[<-hdset pr.1];exact qqf (fun _=>rfl) qza⟩,by show t.fields.length-(i+1)<t.fields.length-i;omega⟩
           |apply And.intro
           |(refine⟨h,ws,bs,cs,F,Hi,rfl,rfl,hHi.ov _,?_⟩;rw[hr];intro bx' q1 q2;simp only[stB,hNi.fgt,hNi.fz,hBi,lA,go_sem])
      · have hie:i=t.fields.length:=by have:=lG hlt;omega
        rw[hie,List.drop_length,Lg.qk0]at hci
        have hci2:Lg.qk0 out 0 t.fields H=.ok (dn,Hi):=by rw[hci];show Except.ok (dn++[],Hi)=_;rw[List.append_nil]
        rw[hci2]at hK;rw[hie,Nat.sub_self,List.replicate_zero,List.append_nil]at hds;rw[hie]at hdl;simp only[Lg.hbnd]at hK
        refine⟨_,_,t.facts,dn,rfl,.inl ⟨_,rfl⟩,.inl ⟨_,by rw[<-hds]⟩,hnl,by omega,by rw[hdl];exact hfa,hdk,fun ov hov=>?_⟩
        simp only[stB,hNi.fgt,hNi.fz,hBi,decide_true,go_sem]
        refine⟨h,ws,bs,cs,F,Hi,ov,Lg.over t.facts dn,rfl,hov,by rw[Lg.over,lE];exact hnl,rfl,hHi.ov _,?_⟩
        cases hr:Hi.assume (Lg.over t.facts dn)with
        |error e=>
         rw[hr]at hK;simp only[stB,hNi.fgt,hNi.fz,hBi,go_sem];exact⟨_,qz6,hK⟩
        |ok H1=>
         rw[hr]at hK;intro bx1 q1 q2
         obtain⟨hbx,hbox⟩:∃x,Bi (h+1000000)=some x:=by obtain⟨_,_,_,hx,_⟩:=hHi;exact⟨_,hx.box⟩
         have hF1:Frm B (ovS bx1 nix) h F F:=hFi.trans (.ov hNi (.src hNi q2) nix) ⟨_,hbox⟩;have hH1:HpA (ovS bx1 nix) h F H1:=q1.ov nix
         have hc1:H1.chunks=H.chunks:=by
          unfold Lg.Hp.assume at hr;split at hr
          ·cases hr
          ·cases hr;exact hch
         simp only[stB,hNi.fgt,hNi.fz,hBi,go_sem]
         refine⟨fun h5=>?_,fun h5=>?_⟩
         · have h5:o=5:=by simpa using h5
           obtain⟨ha0,ha1⟩:=hat h5
           have hat2:at_.toNat<dn.length:=by omega
           obtain⟨cnt,hcn⟩:∃cnt,cnt=dn[at_.toNat]:=⟨_,rfl⟩
           have hcv:dn[at_.toNat]?.getD Lg.zSym=cnt:=by rw[lD hat2,hcn];rfl
           have hg:(d0::ds)[at_.toNat]?=some (.ag [.int .i64 cnt.kind,.int .i64 cnt.var,.int .i64 cnt.k,.int .i64 cnt.block]):=by rw[hds,List.getElem?_map,lD hat2,hcn];rfl
           have hdl1:ds.length+1=t.fields.length:=hdsl;simp only[if_pos h5,hcv]at hK
           refine⟨by omega,by omega,?_⟩
           rw[hg];simp only[stB,decide_true,go_sem]
           refine⟨h,ws,bs,cs,F,H1,_,[(0,cnt.var, -1)],rfl,.inl ⟨_,rfl⟩,by show 1<=100000;decide,rfl,q1.ov _,?_⟩
           cases hr5:H1.assume [(0,cnt.var, -1)]with
           |error e=>
            rw[hr5]at hK;simp only[stB,go_sem];exact⟨_,qz6,hK⟩
           |ok H2=>
            rw[hr5]at hK;dsimp only at hK;intro bx2 q3 q4
            have hbox1:∃x,ovS bx1 nix (h+1000000)=some x:=by obtain⟨_,_,_,hx,_⟩:=hH1;exact⟨_,hx.box⟩
            have hF2:Frm B (ovS bx2 nix) h F F:=hF1.trans (.ov (.of_ov bx1) (.srcO q4) nix) hbox1;have hH2:HpA (ovS bx2 nix) h F H2:=q3.ov nix
            have hc2:H2.chunks=H.chunks:=by
             unfold Lg.Hp.assume at hr5;split at hr5
             ·cases hr5
             ·cases hr5;exact hc1
            simp only[stB,go_sem];obtain⟨ck,hckd⟩:∃ck:Chk,ck=⟨o,num,at_,true,held,false,Lg.zSym,dn⟩:=⟨_,rfl⟩;rw[<-hckd]at hK
            refine qwd (wT 0 (wC 1 (wT 2 (wC 3 (wB 4 (wB 5 (wD 6 7 wZ) 6 (wD 5 7 wZ)) 6 (wE 4 5 7 wZ)) 4 (wB 3 (wB 5 (wD 6 7 wZ) 6 (wD 5 7 wZ)) 6 (wE 3 5 7 wZ)) 6 (wB 3 (wE 4 5 7 wZ) 4 (wE 3 5 7 wZ)))) 4 (wB 1 (wT 2 (wB 3 (wB 5 (wD 6 7 wZ) 6 (wD 5 7 wZ)) 6 (wE 3 5 7 wZ))) 6 (wA 1 (wT 2 (wE 3 5 7 wZ)))) 6 (wB 1 (wT 2 (wB 3 (wE 4 5 7 wZ) 4 (wE 3 5 7 wZ))) 4 (wA 1 (wT 2 (wE 3 5 7 wZ)))))) (fun q:{q:Bx×List Nat //NT q.1/\HpA q.1 h q.2 (H2.put ck).2/\Frm B q.1 h F q.2}=>⟨136,put 0 (.bp 1000 0) (put 6 (.bp 6 0) (put 7 (.bp 7 0) (put 8 (.bp 8 0) (put 13 (.bp 13 0) (put 14 (.bp 14 0) nix))))),put 6 ⟨[.d (.int .i64 0),.d (.int .i64 0),.d (.int .i64 0),.d (.int .i64 0)],52⟩ (put 7 ⟨[.d (.int .i64 0),.d (.int .i64 0),.d (.int .i64 0),.d (.int .i64 0)],52⟩ (put 8 (tyB t) (put 13 ⟨[.d (.int .i64 cnt.kind),.d (.int .i64 cnt.var),.d (.int .i64 cnt.k),.d (.int .i64 cnt.block)],52⟩ (put 14 ⟨[.d (.int .i64 2),.d (.int .i64 0),.d (.int .i64 0),.d (.int .i64 H2.chunks.length)],52⟩ (put 1000 (stB h ws bs cs) q.1.1))))),nix⟩) ?_ ?_
            · simp only[stB,hNi.fgt,hNi.fz,symD,hBi,go_sem]
              repeat' first
               |exact⟨⟨(ovS bx' nix,F'),.of bx',p1.ov nix,hF2.trans (.ov (.of_ov bx2) (.srcO p2) nix) (by obtain⟨_,_,_,hx,_⟩:=hH2;exact⟨_,hx.box⟩)⟩,rfl,sP6 qza,sP6 (qqe fun k=>by simp only[go_sem]),qza⟩
               |apply And.intro
               |(refine⟨h,ck,_,F,H2,by rw[hckd];rfl,.inl ⟨_,by rw[hckd];rw[<-hds]⟩,by rw[hckd];show dn.length<=_;omega,by rw[hc2];omega,q3.ov _,fun bx' F' p1 p2=>?_⟩;simp only[stB,hNi.fgt,hNi.fz,symD,hBi,go_sem])
            · rintro⟨⟨B3,F3⟩,hT3,hH3,hF3⟩;dsimp only at hT3 hH3 hF3⊢;unfold tyB;simp only[stB,hT3.ns.fgt,hT3.ns.fz,hT3.ov,decide_true,go_sem]
              have hkA:zvy (H2.put ck).2 H2.chunks.length=if o=3 then 8 else 7:=by
               unfold zvy
               show(if(((H2.chunks++[ck])[H2.chunks.length]?).map Chk.origin).getD 0=3 then(8:Int)else 7)=_
               simp[hckd]
              have hbox3:∃x,B3 (h+1000000)=some x:=by obtain⟨_,_,_,hx,_⟩:=hH3;exact⟨_,hx.box⟩
              refine⟨h,ws,bs,cs,F3,(H2.put ck).2,H2.chunks.length,t,rfl,rfl,hH3.ov _,by show _<(H2.chunks++[ck]).length;simp,by show((((H2.chunks++[ck])[H2.chunks.length]?).map Chk.cells).getD []).length=_;simp[hckd,hdl],hfs,by omega,by show(H2.chunks++[ck]).length<=_;rw[lC,hc2];simp;omega,?_⟩
              rw[hkA]
              cases hr2:Lg.qje H2.chunks.length (if o=3 then 8 else 7) 0 t.fields (H2.put ck).2 with
              |error e=>
               rw[hr2]at hK;simp only[stB,hT3.ns.fgt,hT3.ns.fz,hT3.ov,go_sem];exact⟨_,qz6,hK⟩
              |ok H4=>
               rw[hr2]at hK;intro bx4 F4 p1 p2;simp only[stB,hT3.ns.fgt,hT3.ns.fz,hT3.ov,go_sem];refine qju (wB 0 (wB 1 (wD 2 3 wZ) 2 (wD 1 3 wZ)) 1 (wE 0 2 3 wZ)) ⟨136,put 6 (.bp 6 0) (put 7 (.bp 7 0) nix),put 6 ⟨[.d (.int .i64 2),.d (.int .i64 0),.d (.int .i64 0),.d (.int .i64 H2.chunks.length)],52⟩ (put 7 ⟨[.d (.int .i64 cnt.kind),.d (.int .i64 cnt.var),.d (.int .i64 cnt.k),.d (.int .i64 cnt.block)],52⟩ (put 1000 (stB h ws bs cs) (ovS bx4 nix))),nix⟩ ?_ ?_
               · simp only[go_sem]
                 repeat' first
                  |exact⟨rfl,sP2 qza,sP3 (qqe fun k=>by simp only[go_sem]),qza⟩
                  |apply And.intro
               ·simp only[go_sem];refine qz8 [] ?_;simp only[stB,go_sem];exact⟨_,_,.cons (.rfl _) (qzb (.rfl _)),qz6,hK _ _ (p1.ov nix) (hF3.trans (.ov hT3.ns (.src hT3.ns p2) nix) hbox3)⟩
         · have h5:¬o=5:=by simpa using h5
           rw[if_neg h5]at hK;simp only[if_neg h5]at hK;obtain⟨ck,hckd⟩:∃ck:Chk,ck=⟨o,num,at_,true,held,false,Lg.zSym,dn⟩:=⟨_,rfl⟩;rw[<-hckd]at hK
           refine qwd (wT 0 (wC 1 (wT 2 (wC 3 (wB 4 (wB 5 (wD 6 7 wZ) 6 (wD 5 7 wZ)) 6 (wE 4 5 7 wZ)) 4 (wB 3 (wB 5 (wD 6 7 wZ) 6 (wD 5 7 wZ)) 6 (wE 3 5 7 wZ)) 6 (wB 3 (wE 4 5 7 wZ) 4 (wE 3 5 7 wZ)))) 4 (wB 1 (wT 2 (wB 3 (wB 5 (wD 6 7 wZ) 6 (wD 5 7 wZ)) 6 (wE 3 5 7 wZ))) 6 (wA 1 (wT 2 (wE 3 5 7 wZ)))) 6 (wB 1 (wT 2 (wB 3 (wE 4 5 7 wZ) 4 (wE 3 5 7 wZ))) 4 (wA 1 (wT 2 (wE 3 5 7 wZ)))))) (fun q:{q:Bx×List Nat //NT q.1/\HpA q.1 h q.2 (H1.put ck).2/\Frm B q.1 h F q.2}=>⟨136,put 0 (.bp 1000 0) (put 6 (.bp 6 0) (put 7 (.bp 7 0) (put 8 (.bp 8 0) (put 13 (.bp 13 0) (put 14 (.bp 14 0) nix))))),put 6 ⟨[.d (.int .i64 0),.d (.int .i64 0),.d (.int .i64 0),.d (.int .i64 0)],52⟩ (put 7 ⟨[.d (.int .i64 0),.d (.int .i64 0),.d (.int .i64 0),.d (.int .i64 0)],52⟩ (put 8 (tyB t) (put 13 ⟨[.d (.int .i64 0),.d (.int .i64 0),.d (.int .i64 0),.d (.int .i64 0)],52⟩ (put 14 ⟨[.d (.int .i64 2),.d (.int .i64 0),.d (.int .i64 0),.d (.int .i64 H1.chunks.length)],52⟩ (put 1000 (stB h ws bs cs) q.1.1))))),nix⟩) ?_ ?_
           · simp only[stB,hNi.fgt,hNi.fz,symD,hBi,go_sem]
             repeat' first
              |exact⟨⟨(ovS bx' nix,F'),.of bx',p1.ov nix,hF1.trans (.ov (.of_ov bx1) (.srcO p2) nix) (by obtain⟨_,_,_,hx,_⟩:=hH1;exact⟨_,hx.box⟩)⟩,rfl,sP6 qza,sP6 (qqe fun k=>by simp only[go_sem]),qza⟩
              |apply And.intro
              |(refine⟨h,ck,_,F,H1,by rw[hckd];rfl,.inl ⟨_,by rw[hckd];rw[<-hds]⟩,by rw[hckd];show dn.length<=_;omega,by rw[hc1];omega,q1.ov _,fun bx' F' p1 p2=>?_⟩;simp only[stB,hNi.fgt,hNi.fz,symD,hBi,go_sem])
           · rintro⟨⟨B3,F3⟩,hT3,hH3,hF3⟩;dsimp only at hT3 hH3 hF3⊢;unfold tyB;simp only[stB,hT3.ns.fgt,hT3.ns.fz,hT3.ov,decide_true,go_sem]
             have hkA:zvy (H1.put ck).2 H1.chunks.length=if o=3 then 8 else 7:=by
              unfold zvy
              show(if(((H1.chunks++[ck])[H1.chunks.length]?).map Chk.origin).getD 0=3 then(8:Int)else 7)=_
              simp[hckd]
             have hbox3:∃x,B3 (h+1000000)=some x:=by obtain⟨_,_,_,hx,_⟩:=hH3;exact⟨_,hx.box⟩
             refine⟨h,ws,bs,cs,F3,(H1.put ck).2,H1.chunks.length,t,rfl,rfl,hH3.ov _,by show _<(H1.chunks++[ck]).length;simp,by show((((H1.chunks++[ck])[H1.chunks.length]?).map Chk.cells).getD []).length=_;simp[hckd,hdl],hfs,by omega,by show(H1.chunks++[ck]).length<=_;rw[lC,hc1];simp;omega,?_⟩
             rw[hkA]
             cases hr2:Lg.qje H1.chunks.length (if o=3 then 8 else 7) 0 t.fields (H1.put ck).2 with
             |error e=>
              rw[hr2]at hK;simp only[stB,hT3.ns.fgt,hT3.ns.fz,hT3.ov,go_sem];exact⟨_,qz6,hK⟩
             |ok H3=>
              rw[hr2]at hK;intro bx4 F4 p1 p2;simp only[stB,hT3.ns.fgt,hT3.ns.fz,hT3.ov,go_sem];refine qju (wB 0 (wB 1 (wD 2 3 wZ) 2 (wD 1 3 wZ)) 1 (wE 0 2 3 wZ)) ⟨136,put 6 (.bp 6 0) (put 7 (.bp 7 0) nix),put 6 ⟨[.d (.int .i64 2),.d (.int .i64 0),.d (.int .i64 0),.d (.int .i64 H1.chunks.length)],52⟩ (put 7 ⟨[.d (.int .i64 0),.d (.int .i64 0),.d (.int .i64 0),.d (.int .i64 0)],52⟩ (put 1000 (stB h ws bs cs) (ovS bx4 nix))),nix⟩ ?_ ?_
              · simp only[go_sem]
                repeat' first
                 |exact⟨rfl,sP2 qza,sP3 (qqe fun k=>by simp only[go_sem]),qza⟩
                 |apply And.intro
              ·simp only[go_sem];refine qz8 [] ?_;simp only[stB,go_sem];exact⟨_,_,.cons (.rfl _) (qzb (.rfl _)),qz6,hK _ _ (p1.ov nix) (hF3.trans (.ov hT3.ns (.src hT3.ns p2) nix) hbox3)⟩
end Lx
