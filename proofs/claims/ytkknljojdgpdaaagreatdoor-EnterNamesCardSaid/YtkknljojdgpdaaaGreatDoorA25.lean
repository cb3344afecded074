import Derived.Test.YtkknljojdgpdaaaGreatDoorA24
set_option maxHeartbeats 32000000
set_option linter.unusedSimpArgs false
set_option linter.unusedVariables false
set_option maxRecDepth 20000
namespace Lx
open Go
open Lg (Tok Tree)
open Go.Proofs (Tryz.prog)
open Go.Proofs.Tryz
theorem stand2 {ds:List D}{acc:List Tree}(h:qx7 ds acc){x y:D}{r b:Tree}(hx:D.le x (qzr r))(hy:D.le y (qzr b)):qx7 (ds++[x]++[y]) (acc++[r,b]):=by
 have:=(h.snoc hx).snoc hy;rw[List.append_assoc acc [r] [b]]at this;exact this
abbrev PD (v m:Tree):D:=.ag [.int .i64 7,.st v.text,.int .i64 v.num,.int .i64 v.pos,.sl 5 [exD m] true]
abbrev PT (v m:Tree):Tree:=.node 7 v.text v.num v.pos [m]
theorem qjt (v m:Tree):D.le (PD v m) (qzr (PT v m)):=qzc (qzo (ts:=[m]) (.cons (qzk m) .nil))
theorem stand_nil:qx7 [] []:=.nil
abbrev fnK2 (nm:Bs)(at_:Int)(xs:List Tree)(ts:List Tok):Lg.PR Tree:=Lg.bnd (Lg.fnRet ts) fun r ts=>Lg.bnd (Lg.block 8 ts) fun b ts=>.ok (.node 6 nm 0 at_ (xs++[r,b]),ts)
abbrev fnKP (nm:Bs)(at_:Int)(xs:List Tree)(ts:List Tok):Lg.PR Tree:=Lg.bnd (Lg.must Lg.sRpar ts) fun _ ts=>fnK2 nm at_ xs ts
theorem fn_eq (at_:Int)(ts:List Tok):Lg.fn at_ ts=Lg.bnd (Lg.name ts) fun n ts=>Lg.bnd (Lg.must Lg.sLpar ts) fun _ ts=>if Lg.isT Lg.sRpar ts then fnK2 n.text at_ [] ts.tail else Lg.bnd (Lg.param ts) fun x ts'=>qj8 Lg.param (fnKP n.text at_) [x] ts':=by
 unfold Lg.fn Lg.zxi
 congr 1
 funext n ts1
 rw[bnd3]
 congr 1
 funext _ ts2
 cases h:Lg.isT Lg.sRpar ts2 with
 |true=>rfl
 |false=>
  rw[if_neg (by decide),if_neg (by decide),<-qwp,bnd3]
  congr 1
  funext xs ts3
  rw[bnd3];rfl
abbrev fnSt (T:List Tok)(nm:Bs)(num at_:Int)(o:Bool)(ds:List D)(i:Nat)(fl p:Int):S:=
 ⟨91,put 0 (.bp 1000 0) (put 4 (.bp 4 0) (put 5 (.bp 5 0) (put 6 (.d (.bool o)) nix))),put 1000 (rbx T i 0 fl p) (put 4 ⟨qvp,100⟩ (put 5 ⟨[.d (.int .i64 6),.d (.st nm),.d (.int .i64 num),.d (.int .i64 at_),bkLV 46 ds],100⟩ nix)),bkAr 46 ds⟩
inductive FnQ where
 |go (ds:List D) (acc:List Tree) (i:Nat) (ts:List Tok)
 |fin (ds:List D) (acc:List Tree) (i:Nat) (ts:List Tok)
 |bad (ds:List D) (acc:List Tree) (i:Nat) (c p:Int)
def fnM:FnQ->Nat
 |.go _ _ _ ts=>ts.length+1
 |_=>0
def fnOk (T:List Tok)(a:Int)(Kr:LV->Bx->Ar1->Prop)(nm:Bs)(at_:Int):FnQ->Prop
 |.go ds acc i ts=>At T i ts/\qx7 ds acc/\acc.length+ts.length<=2097152/\trQ' T 0 a Kr (Lg.bnd (Lg.param ts) fun x ts'=>qj8 Lg.param (fnKP nm at_) (acc++[x]) ts')
 |.fin ds acc i ts=>At T i ts/\qx7 ds acc/\acc.length+ts.length<=2097152/\trQ' T 0 a Kr (fnK2 nm at_ acc ts)
 |.bad ds acc i c p=>c≠0/\(∃ts,At T i ts)/\qx7 ds acc/\acc.length<=2097153/\flQ T 0 (fun _=>True) (fun t=>.d (qzr t)) Kr c p
def fnF (T:List Tok)(a:Int)(nm:Bs)(at_:Int):FnQ->S
 |.go ds _ i _=>fnSt T nm 0 at_ false ds i 0 a
 |.fin ds _ i _=>fnSt T nm 0 at_ true ds i 0 a
 |.bad ds _ i c p=>fnSt T nm 0 at_ true ds i c p
theorem name_num2 {ts ts':List Tok}{w:Tree}(h:Lg.name ts=.ok (w,ts')):w.num=0:=by
 obtain⟨t,l,_,h⟩:=Lg.qzs h;cases h;rfl
def rfn:Spec:=fun ys bx Kr _=>∃at_ T i ts a,ys=[.bp 1000 0,.d (.int .i64 at_)]/\bx 1000=some (rbx T i 0 0 a)/\At T i ts/\trQ' T 0 a Kr (Lg.fn at_ ts)
theorem rfn_OK:OK Tryz.prog 53 rfn:=by
 refine fn_OK' qzu (E:=EV) (sp:=spL [(104,(refP (fun _=>True) (fun t=>.d (qx8 t)) Lg.name [])),(54,zq6),(52,rhas),(105,(refP (fun _=>True) (fun t=>.d (qzr t)) Lg.mode [])),(103,ris),(106,zzp),(107,(zxv 0 8))]) qzt qzl (OKs.ok ⟨qjq,⟨qx1,⟨qxp,⟨rmode_OK,⟨zxu,⟨qkc,⟨rblock_OK,trivial⟩⟩⟩⟩⟩⟩⟩) func53 rfl ntmps53 results53 call53 [1000] none ?_;rintro ys bx Kr Kp ⟨at_,T,i,ts,a,rfl,hb,hA,hK⟩
 refine⟨[(1000,rbx T i 0 0 a)],rfl,⟨by decide,hb,trivial⟩,by simp,?_⟩
 rw[fn_eq]at hK;simp only[go_sem];refine⟨T,i,ts,0,0,a,rfl,rfl,hA,.inl ⟨rfl,qzf hK (fun p' c hc hE v i' ts' hb' hA'=>?_) (fun v ts1 i1 e hK hA1=>?_)⟩⟩
 · have hc':(c==0)=false:=by simpa using hc
   simp only[go_sem]
   refine⟨_,T,i',ts',0,c,p',rfl,rfl,hA',.inr ⟨hc,fun _ _=>?_⟩⟩
   simp only[go_sem];refine⟨T,i',ts',0,c,p',_,rfl,rfl,hA',.inr ⟨hc,?_⟩⟩;simp only[go_sem]
   refine qzj (T:=Unit) (fun _=>fnSt T v.text v.num at_ false [] i' c p') (fun _=>0) ()
    (zsub (sP4 qza) (sP3 qza) qza) ?_
   rintro⟨⟩;dsimp only[fnSt,bkLV,bkAr];simp only[rbx,hc',go_sem];refine qqo [] [1000] [0,1,2,3,4,5,6,7,8,9,10] (wB 11 (wD 12 13 wZ) 12 (wD 11 13 wZ)) ⟨91,put 0 (.bp 1000 0) (put 4 (.bp 4 0) (put 5 (.bp 5 0) (put 10 (.bp 10 0) nix))),put 1000 (rbx T i' 0 c p') (put 4 ⟨qvp,100⟩ (put 5 ⟨[.d (.int .i64 6),.d (.st v.text),.d (.int .i64 v.num),.d (.int .i64 at_),.d (.imm (.slice none 0 0))],100⟩ (put 10 ⟨[.d (.int .i64 8),.d (.st []),.d (.int .i64 0),.d (.int .i64 (Lg.hd ts').pos),.d (.imm (.slice none 0 0))],100⟩ nix))),nix⟩ (by decide) ?_ ?_
   · simp only[rbx,lE,lA,hA'.i0,hA'.i1,hA'.get,tokD,go_sem]
     repeat' apply And.intro
     all_goals exact zsub (sP4 qza) (sP4 qza) qza
   · simp only[go_sem];refine⟨T,i',ts',0,c,p',_,rfl,rfl,hA',.inr ⟨hc,?_⟩⟩;simp only[go_sem]
     refine⟨T,i',ts',c,p',rfl,rfl,hA',.inr ⟨hc,fun w _=>?_⟩⟩
     simp only[go_sem]
     exact⟨_,qzb (qzc (qzo (ts:=[]++[Tree.node 8 [] 0 (Lg.hd ts').pos []]++[w]) ((stand_nil).snoc (t:=.node 8 [] 0 (Lg.hd ts').pos []) (qzc (.nil _ _))|>.snoc (qzk w)))),hE (.node 6 v.text v.num at_ ([]++[Tree.node 8 [] 0 (Lg.hd ts').pos []]++[w])) i' trivial ⟨ts',hA'⟩⟩
 · have hv:=qqm e;have hv2:=name_num2 e;obtain⟨k,t,m,p,ks⟩:=v;cases hv;cases hv2;simp only[go_sem];refine⟨_,T,i1,ts1,0,0,a,rfl,rfl,hA1,.inl ⟨rfl,qzf hK (fun p' c hc hE _ i' ts' hb' hA'=>?_) (fun _ ts2 i2 e hK hA2=>?_)⟩⟩
   · have hc':(c==0)=false:=by simpa using hc
     simp only[go_sem];refine⟨T,i',ts',0,c,p',_,rfl,rfl,hA',.inr ⟨hc,?_⟩⟩;simp only[go_sem]
     refine qzj (T:=Unit) (fun _=>fnSt T t 0 at_ false [] i' c p') (fun _=>0) ()
      (zsub (sP4 qza) (sP3 qza) qza) ?_
     rintro⟨⟩;dsimp only[fnSt,bkLV,bkAr];simp only[rbx,hc',go_sem];refine qqo [] [1000] [0,1,2,3,4,5,6,7,8,9,10] (wB 11 (wD 12 13 wZ) 12 (wD 11 13 wZ)) ⟨91,put 0 (.bp 1000 0) (put 4 (.bp 4 0) (put 5 (.bp 5 0) (put 10 (.bp 10 0) nix))),put 1000 (rbx T i' 0 c p') (put 4 ⟨qvp,100⟩ (put 5 ⟨[.d (.int .i64 6),.d (.st t),.d (.int .i64 0),.d (.int .i64 at_),.d (.imm (.slice none 0 0))],100⟩ (put 10 ⟨[.d (.int .i64 8),.d (.st []),.d (.int .i64 0),.d (.int .i64 (Lg.hd ts').pos),.d (.imm (.slice none 0 0))],100⟩ nix))),nix⟩ (by decide) ?_ ?_
     · simp only[rbx,lE,lA,hA'.i0,hA'.i1,hA'.get,tokD,go_sem]
       repeat' apply And.intro
       all_goals exact zsub (sP4 qza) (sP4 qza) qza
     · simp only[go_sem];refine⟨T,i',ts',0,c,p',_,rfl,rfl,hA',.inr ⟨hc,?_⟩⟩;simp only[go_sem]
       refine⟨T,i',ts',c,p',rfl,rfl,hA',.inr ⟨hc,fun w _=>?_⟩⟩
       simp only[go_sem]
       exact⟨_,qzb (qzc (qzo (ts:=[]++[Tree.node 8 [] 0 (Lg.hd ts').pos []]++[w]) ((stand_nil).snoc (t:=.node 8 [] 0 (Lg.hd ts').pos []) (qzc (.nil _ _))|>.snoc (qzk w)))),hE (.node 6 t 0 at_ ([]++[Tree.node 8 [] 0 (Lg.hd ts').pos []]++[w])) i' trivial ⟨ts',hA'⟩⟩
   · have b2:=hA2.2.1.2;simp only[go_sem]
     refine⟨T,i2,ts2,0,0,a,Lg.sRpar,rfl,rfl,hA2,.inl ⟨rfl,fun h=>?_,fun h=>?_⟩⟩
     · rw[if_pos h]at hK;simp only[go_sem]
       refine qzj (T:={q:FnQ //fnOk T a Kr t at_ q}) (fun q=>fnF T a t at_ q.val) (fun q=>fnM q.val) ⟨.fin [] [] (i2+1) ts2.tail,hA2.isT h,.nil,by rw[List.length_tail];show 0+(ts2.length-1)<=2097152;omega,hK⟩
        (zsub (sP4 qza) (sP3 qza) qza) ?_
       rintro⟨q,hq⟩
       cases q with
       |go ds acc i3 ts3=>
        obtain⟨hA3,hS,hn,hK⟩:=hq
        cases ds with
        |nil=>
         dsimp only[fnF,fnSt,bkLV,bkAr];have hl:=hS.len;simp only[rbx,go_sem];unfold Lg.param at hK;simp only[bnd3]at hK;refine⟨T,i3,ts3,0,0,a,rfl,rfl,hA3,.inl ⟨rfl,qzf hK (fun p' c hc hE v i' ts' hb' hA'=>?_) (fun v ts4 i4 e hK hA4=>?_)⟩⟩
         · simp only[go_sem]
           (refine⟨_,T,i',ts',0,c,p',rfl,rfl,hA',.inr ⟨hc,fun _ _=>?_⟩⟩;simp only[go_sem])
           (refine⟨T,i',ts',0,c,p',rfl,rfl,hA',.inr ⟨hc,fun m hy_m=>?_⟩⟩;simp only[go_sem])
           (refine⟨T,i',ts',0,c,p',_,rfl,rfl,hA',.inr ⟨hc,?_⟩⟩;simp only[go_sem])
           (refine⟨_,T,i',ts',0,c,p',rfl,rfl,hA',.inr ⟨hc,fun _ _=>?_⟩⟩;simp only[go_sem])
           exact⟨⟨.bad ([]++[PD v m]) (acc++[PT v m]) i' c p',hc,⟨ts',hA'⟩,hS.snoc (qjt v m),by rw[lC,List.length_singleton];omega,hE⟩,zsub (sP4 qza) (sP3 qza) (sP1 qza),Nat.succ_pos _⟩
         · have hv:=qqm e;have h1:=Lg.qql _ _ _ e;obtain⟨k,t1,m1,p,ks⟩:=v;cases hv;simp only[go_sem];refine⟨_,T,i4,ts4,0,0,a,rfl,rfl,hA4,.inl ⟨rfl,qzf hK (fun p' c hc hE _ i' ts' hb' hA'=>?_) (fun _ ts5 i5 e hK hA5=>?_)⟩⟩
           · simp only[go_sem]
             (refine⟨T,i',ts',0,c,p',rfl,rfl,hA',.inr ⟨hc,fun m hy_m=>?_⟩⟩;simp only[go_sem])
             (refine⟨T,i',ts',0,c,p',_,rfl,rfl,hA',.inr ⟨hc,?_⟩⟩;simp only[go_sem])
             (refine⟨_,T,i',ts',0,c,p',rfl,rfl,hA',.inr ⟨hc,fun _ _=>?_⟩⟩;simp only[go_sem])
             exact⟨⟨.bad ([]++[PD (.node k t1 m1 p []) m]) (acc++[PT (.node k t1 m1 p []) m]) i' c p',hc,⟨ts',hA'⟩,hS.snoc (qjt _ m),by rw[lC,List.length_singleton];omega,hE⟩,zsub (sP4 qza) (sP3 qza) (sP1 qza),Nat.succ_pos _⟩
           · have h2:=Lg.qqn _ _ _ _ e;simp only[go_sem];refine⟨T,i5,ts5,0,0,a,rfl,rfl,hA5,.inl ⟨rfl,qzf hK (fun p' c hc hE m i' ts' hb' hA'=>?_) (fun m ts6 i6 e hK hA6=>?_)⟩⟩
             · simp only[go_sem]
               (refine⟨T,i',ts',0,c,p',_,rfl,rfl,hA',.inr ⟨hc,?_⟩⟩;simp only[go_sem])
               (refine⟨_,T,i',ts',0,c,p',rfl,rfl,hA',.inr ⟨hc,fun _ _=>?_⟩⟩;simp only[go_sem])
               exact⟨⟨.bad ([]++[PD (.node k t1 m1 p []) m]) (acc++[PT (.node k t1 m1 p []) m]) i' c p',hc,⟨ts',hA'⟩,hS.snoc (qjt _ m),by rw[lC,List.length_singleton];omega,hE⟩,zsub (sP4 qza) (sP3 qza) (sP1 qza),Nat.succ_pos _⟩
             · have h3:=Lg.mode_eats _ _ _ e;simp only[go_sem]
               refine⟨T,i6,ts6,0,0,a,Lg.sComma,rfl,rfl,hA6,.inl ⟨rfl,fun h=>?_,fun h=>?_⟩⟩
               · have hK2:trQ' T 0 a Kr (qj8 Lg.param (fnKP t at_) (acc++[PT (.node k t1 m1 p []) m]) ts6):=hK;rw[qq7 Lg.param_eats h]at hK2;simp only[go_sem]
                 exact⟨⟨.go ([]++[PD (.node k t1 m1 p []) m]) (acc++[PT (.node k t1 m1 p []) m]) (i6+1) ts6.tail,hA6.isT h,hS.snoc (qjt _ m),by rw[lC,List.length_singleton,List.length_tail];omega,hK2⟩,zsub (sP4 qza) (sP3 qza) (sP1 qza),by show ts6.tail.length+1<ts3.length+1;rw[List.length_tail];omega⟩
               · have hK2:trQ' T 0 a Kr (qj8 Lg.param (fnKP t at_) (acc++[PT (.node k t1 m1 p []) m]) ts6):=hK;rw[qxz h]at hK2;replace hK:=hK2;simp only[go_sem];refine⟨_,T,i6,ts6,0,0,a,rfl,rfl,hA6,.inl ⟨rfl,qzf hK (fun p' c hc hE _ i' ts' hb' hA'=>?_) (fun _ ts7 i7 e hK hA7=>?_)⟩⟩
                 · simp only[go_sem]
                   exact⟨⟨.bad ([]++[PD (.node k t1 m1 p []) m]) (acc++[PT (.node k t1 m1 p []) m]) i' c p',hc,⟨ts',hA'⟩,hS.snoc (qjt _ m),by rw[lC,List.length_singleton];omega,hE⟩,zsub (sP4 qza) (sP3 qza) (sP1 qza),Nat.succ_pos _⟩
                 · have h4:=Lg.qqn _ _ _ _ e;simp only[go_sem]
                   exact⟨⟨.fin ([]++[PD (.node k t1 m1 p []) m]) (acc++[PT (.node k t1 m1 p []) m]) i7 ts7,hA7,hS.snoc (qjt _ m),by rw[lC,List.length_singleton];omega,hK⟩,zsub (sP4 qza) (sP3 qza) (sP1 qza),Nat.succ_pos _⟩
        |cons d ds=>
         dsimp only[fnF,fnSt,bkLV,bkAr];have hl:=hS.len;simp only[rbx,go_sem];unfold Lg.param at hK;simp only[bnd3]at hK;refine⟨T,i3,ts3,0,0,a,rfl,rfl,hA3,.inl ⟨rfl,qzf hK (fun p' c hc hE v i' ts' hb' hA'=>?_) (fun v ts4 i4 e hK hA4=>?_)⟩⟩
         · simp only[go_sem]
           (refine⟨_,T,i',ts',0,c,p',rfl,rfl,hA',.inr ⟨hc,fun _ _=>?_⟩⟩;simp only[go_sem])
           (refine⟨T,i',ts',0,c,p',rfl,rfl,hA',.inr ⟨hc,fun m hy_m=>?_⟩⟩;simp only[go_sem])
           refine⟨by simp only[lB]at hl;omega,by simp only[lB]at hl;omega,?_⟩
           (refine⟨T,i',ts',0,c,p',_,rfl,rfl,hA',.inr ⟨hc,?_⟩⟩;simp only[go_sem])
           (refine⟨_,T,i',ts',0,c,p',rfl,rfl,hA',.inr ⟨hc,fun _ _=>?_⟩⟩;simp only[go_sem])
           exact⟨⟨.bad ((d::ds)++[PD v m]) (acc++[PT v m]) i' c p',hc,⟨ts',hA'⟩,hS.snoc (qjt v m),by rw[lC,List.length_singleton];omega,hE⟩,zsub (sP4 qza) (sP2 (qzd (by simp[put,bkLV]) qza)) (sP1 qza),Nat.succ_pos _⟩
         · have hv:=qqm e;have h1:=Lg.qql _ _ _ e;obtain⟨k,t1,m1,p,ks⟩:=v;cases hv;simp only[go_sem];refine⟨_,T,i4,ts4,0,0,a,rfl,rfl,hA4,.inl ⟨rfl,qzf hK (fun p' c hc hE _ i' ts' hb' hA'=>?_) (fun _ ts5 i5 e hK hA5=>?_)⟩⟩
           · simp only[go_sem]
             (refine⟨T,i',ts',0,c,p',rfl,rfl,hA',.inr ⟨hc,fun m hy_m=>?_⟩⟩;simp only[go_sem])
             refine⟨by simp only[lB]at hl;omega,by simp only[lB]at hl;omega,?_⟩
             (refine⟨T,i',ts',0,c,p',_,rfl,rfl,hA',.inr ⟨hc,?_⟩⟩;simp only[go_sem])
             (refine⟨_,T,i',ts',0,c,p',rfl,rfl,hA',.inr ⟨hc,fun _ _=>?_⟩⟩;simp only[go_sem])
             exact⟨⟨.bad ((d::ds)++[PD (.node k t1 m1 p []) m]) (acc++[PT (.node k t1 m1 p []) m]) i' c p',hc,⟨ts',hA'⟩,hS.snoc (qjt _ m),by rw[lC,List.length_singleton];omega,hE⟩,zsub (sP4 qza) (sP2 (qzd (by simp[put,bkLV]) qza)) (sP1 qza),Nat.succ_pos _⟩
           · have h2:=Lg.qqn _ _ _ _ e;simp only[go_sem];refine⟨T,i5,ts5,0,0,a,rfl,rfl,hA5,.inl ⟨rfl,qzf hK (fun p' c hc hE m i' ts' hb' hA'=>?_) (fun m ts6 i6 e hK hA6=>?_)⟩⟩
             · simp only[go_sem]
               refine⟨by simp only[lB]at hl;omega,by simp only[lB]at hl;omega,?_⟩
               (refine⟨T,i',ts',0,c,p',_,rfl,rfl,hA',.inr ⟨hc,?_⟩⟩;simp only[go_sem])
               (refine⟨_,T,i',ts',0,c,p',rfl,rfl,hA',.inr ⟨hc,fun _ _=>?_⟩⟩;simp only[go_sem])
               exact⟨⟨.bad ((d::ds)++[PD (.node k t1 m1 p []) m]) (acc++[PT (.node k t1 m1 p []) m]) i' c p',hc,⟨ts',hA'⟩,hS.snoc (qjt _ m),by rw[lC,List.length_singleton];omega,hE⟩,zsub (sP4 qza) (sP2 (qzd (by simp[put,bkLV]) qza)) (sP1 qza),Nat.succ_pos _⟩
             · have h3:=Lg.mode_eats _ _ _ e;simp only[go_sem]
               refine⟨by simp only[lB]at hl;omega,by simp only[lB]at hl;omega,?_⟩
               refine⟨T,i6,ts6,0,0,a,Lg.sComma,rfl,rfl,hA6,.inl ⟨rfl,fun h=>?_,fun h=>?_⟩⟩
               · have hK2:trQ' T 0 a Kr (qj8 Lg.param (fnKP t at_) (acc++[PT (.node k t1 m1 p []) m]) ts6):=hK;rw[qq7 Lg.param_eats h]at hK2;simp only[go_sem]
                 exact⟨⟨.go ((d::ds)++[PD (.node k t1 m1 p []) m]) (acc++[PT (.node k t1 m1 p []) m]) (i6+1) ts6.tail,hA6.isT h,hS.snoc (qjt _ m),by rw[lC,List.length_singleton,List.length_tail];omega,hK2⟩,zsub (sP4 qza) (sP2 (qzd (by simp[put,bkLV]) qza)) (sP1 qza),by show ts6.tail.length+1<ts3.length+1;rw[List.length_tail];omega⟩
               · have hK2:trQ' T 0 a Kr (qj8 Lg.param (fnKP t at_) (acc++[PT (.node k t1 m1 p []) m]) ts6):=hK;rw[qxz h]at hK2;replace hK:=hK2;simp only[go_sem];refine⟨_,T,i6,ts6,0,0,a,rfl,rfl,hA6,.inl ⟨rfl,qzf hK (fun p' c hc hE _ i' ts' hb' hA'=>?_) (fun _ ts7 i7 e hK hA7=>?_)⟩⟩
                 · simp only[go_sem]
                   exact⟨⟨.bad ((d::ds)++[PD (.node k t1 m1 p []) m]) (acc++[PT (.node k t1 m1 p []) m]) i' c p',hc,⟨ts',hA'⟩,hS.snoc (qjt _ m),by rw[lC,List.length_singleton];omega,hE⟩,zsub (sP4 qza) (sP2 (qzd (by simp[put,bkLV]) qza)) (sP1 qza),Nat.succ_pos _⟩
                 · have h4:=Lg.qqn _ _ _ _ e;simp only[go_sem]
                   exact⟨⟨.fin ((d::ds)++[PD (.node k t1 m1 p []) m]) (acc++[PT (.node k t1 m1 p []) m]) i7 ts7,hA7,hS.snoc (qjt _ m),by rw[lC,List.length_singleton];omega,hK⟩,zsub (sP4 qza) (sP2 (qzd (by simp[put,bkLV]) qza)) (sP1 qza),Nat.succ_pos _⟩
       |fin ds acc i3 ts3=>
        obtain⟨hA3,hS,hn,hK⟩:=hq
        cases ds with
        |nil=>
         dsimp only[fnF,fnSt,bkLV,bkAr];have hl:=hS.len;simp only[rbx,go_sem];refine qqo [] [1000] [0,1,2,3,4,5,6,7,8,9,10] (wB 11 (wD 12 13 wZ) 12 (wD 11 13 wZ)) ⟨91,put 0 (.bp 1000 0) (put 4 (.bp 4 0) (put 5 (.bp 5 0) (put 10 (.bp 10 0) nix))),put 1000 (rbx T i3 0 0 a) (put 4 ⟨qvp,100⟩ (put 5 ⟨[.d (.int .i64 6),.d (.st t),.d (.int .i64 0),.d (.int .i64 at_),.d (.imm (.slice none 0 0))],100⟩ (put 10 ⟨[.d (.int .i64 8),.d (.st []),.d (.int .i64 0),.d (.int .i64 (Lg.hd ts3).pos),.d (.imm (.slice none 0 0))],100⟩ nix))),nix⟩ (by decide) ?_ ?_
         · simp only[rbx,lE,lA,hA3.i0,hA3.i1,hA3.get,tokD,go_sem]
           repeat' apply And.intro
           all_goals exact zsub (sP4 qza) (sP4 qza) qza
         · simp only[go_sem];unfold fnK2 Lg.fnRet at hK
           refine⟨T,i3,ts3,0,0,a,Lg.sArrow,rfl,rfl,hA3,.inl ⟨rfl,fun h=>?_,fun h=>?_⟩⟩
           · rw[if_pos h]at hK;have hA4:=hA3.isT h;simp only[go_sem];refine⟨T,i3+1,ts3.tail,0,0,a,Lg.sAmp,rfl,rfl,hA4,.inl ⟨rfl,?_⟩⟩;simp only[go_sem]
             refine⟨fun h2=>?_,fun h2=>?_⟩
             · rw[if_pos h2]at hK;have hE:flQ T 0 (fun _=>True) (fun t=>.d (qzr t)) Kr 20 (Lg.hd ts3.tail).pos:=hK (by decide);refine⟨T,i3+1,ts3.tail,0,0,a,20,rfl,rfl,hA4,.inl ⟨rfl,?_⟩⟩;simp only[go_sem]
               refine⟨T,i3+1,ts3.tail,0,20,(Lg.hd ts3.tail).pos,rfl,rfl,hA4,.inr ⟨by decide,fun r _=>?_⟩⟩
               simp only[go_sem]
               refine⟨T,i3+1,ts3.tail,20,(Lg.hd ts3.tail).pos,rfl,rfl,hA4,.inr ⟨by decide,fun w _=>?_⟩⟩
               simp only[go_sem];exact⟨_,qzb (qzc (qzo (stand2 hS (r:=r) (qzk r) (qzk w)))),hE (.node 6 t 0 at_ (acc++[r,w])) (i3+1) trivial ⟨_,hA4⟩⟩
             · rw[if_neg (qzg h2)]at hK;refine⟨T,i3+1,ts3.tail,0,0,a,rfl,rfl,hA4,.inl ⟨rfl,qzf hK (fun p' c hc hE r i' ts' hb' hA'=>?_) (fun r ts5 i5 e hK hA5=>?_)⟩⟩
               · simp only[go_sem]
                 refine⟨T,i',ts',c,p',rfl,rfl,hA',.inr ⟨hc,fun w _=>?_⟩⟩
                 simp only[go_sem];exact⟨_,qzb (qzc (qzo (stand2 hS (r:=r) (qzk r) (qzk w)))),hE (.node 6 t 0 at_ (acc++[r,w])) i' trivial ⟨ts',hA'⟩⟩
               · simp only[go_sem];refine⟨T,i5,ts5,0,a,rfl,rfl,hA5,.inl ⟨rfl,qzf hK (fun p' c hc hE w i' ts' hb' hA'=>?_) (fun w ts9 i9 e hK hA9=>?_)⟩⟩
                 ·simp only[go_sem];exact⟨_,qzb (qzc (qzo (stand2 hS (r:=r) (qzk r) (qzk w)))),hE (.node 6 t 0 at_ (acc++[r,w])) i' trivial ⟨ts',hA'⟩⟩
                 ·simp only[go_sem];exact⟨_,qzb (qzc (qzo (stand2 hS (r:=r) (qzk r) (qzk w)))),hK i9 hA9⟩
           · rw[if_neg (qzg h)]at hK;replace hK:trQ' T 0 a Kr (Lg.bnd (Lg.block 8 ts3) fun b ts=>.ok (.node 6 t 0 at_ (acc++[Tree.node 8 [] 0 (Lg.hd ts3).pos [],b]),ts)):=hK;simp only[go_sem];refine⟨T,i3,ts3,0,a,rfl,rfl,hA3,.inl ⟨rfl,qzf hK (fun p' c hc hE w i' ts' hb' hA'=>?_) (fun w ts9 i9 e hK hA9=>?_)⟩⟩
             ·simp only[go_sem];exact⟨_,qzb (qzc (qzo (stand2 hS (r:=Tree.node 8 [] 0 (Lg.hd ts3).pos []) (qzc (.nil _ _)) (qzk w)))),hE (.node 6 t 0 at_ (acc++[Tree.node 8 [] 0 (Lg.hd ts3).pos [],w])) i' trivial ⟨ts',hA'⟩⟩
             ·simp only[go_sem];exact⟨_,qzb (qzc (qzo (stand2 hS (r:=Tree.node 8 [] 0 (Lg.hd ts3).pos []) (qzc (.nil _ _)) (qzk w)))),hK i9 hA9⟩
        |cons d ds=>
         dsimp only[fnF,fnSt,bkLV,bkAr];have hl:=hS.len;simp only[rbx,go_sem];refine qqo [] [1000] [0,1,2,3,4,5,6,7,8,9,10] (wB 11 (wD 12 13 wZ) 12 (wD 11 13 wZ)) ⟨91,put 0 (.bp 1000 0) (put 4 (.bp 4 0) (put 5 (.bp 5 0) (put 10 (.bp 10 0) nix))),put 1000 (rbx T i3 0 0 a) (put 4 ⟨qvp,100⟩ (put 5 ⟨[.d (.int .i64 6),.d (.st t),.d (.int .i64 0),.d (.int .i64 at_),.os 46 5 (ds.length+1)],100⟩ (put 10 ⟨[.d (.int .i64 8),.d (.st []),.d (.int .i64 0),.d (.int .i64 (Lg.hd ts3).pos),.d (.imm (.slice none 0 0))],100⟩ nix))),(put 46 (5,100,d::ds) nix)⟩ (by decide) ?_ ?_
         · simp only[rbx,lE,lA,hA3.i0,hA3.i1,hA3.get,tokD,go_sem]
           repeat' apply And.intro
           all_goals exact zsub (sP4 qza) (sP4 qza) (sP1 qza)
         · simp only[go_sem];unfold fnK2 Lg.fnRet at hK
           refine⟨T,i3,ts3,0,0,a,Lg.sArrow,rfl,rfl,hA3,.inl ⟨rfl,fun h=>?_,fun h=>?_⟩⟩
           · rw[if_pos h]at hK;have hA4:=hA3.isT h;simp only[go_sem];refine⟨T,i3+1,ts3.tail,0,0,a,Lg.sAmp,rfl,rfl,hA4,.inl ⟨rfl,?_⟩⟩;simp only[go_sem]
             refine⟨fun h2=>?_,fun h2=>?_⟩
             · rw[if_pos h2]at hK;have hE:flQ T 0 (fun _=>True) (fun t=>.d (qzr t)) Kr 20 (Lg.hd ts3.tail).pos:=hK (by decide);refine⟨T,i3+1,ts3.tail,0,0,a,20,rfl,rfl,hA4,.inl ⟨rfl,?_⟩⟩;simp only[go_sem]
               refine⟨T,i3+1,ts3.tail,0,20,(Lg.hd ts3.tail).pos,rfl,rfl,hA4,.inr ⟨by decide,fun r _=>?_⟩⟩
               simp only[go_sem]
               refine⟨T,i3+1,ts3.tail,20,(Lg.hd ts3.tail).pos,rfl,rfl,hA4,.inr ⟨by decide,fun w _=>?_⟩⟩
               simp only[go_sem]
               have hl2:ds.length+1=acc.length:=by rw[lB]at hl;exact hl
               refine⟨by omega,by omega,by simp,by omega,by omega,by simp,?_⟩
               exact⟨_,qzb (qzc (qzo (stand2 hS (r:=r) (qzk r) (qzk w)))),hE (.node 6 t 0 at_ (acc++[r,w])) (i3+1) trivial ⟨_,hA4⟩⟩
             · rw[if_neg (qzg h2)]at hK;refine⟨T,i3+1,ts3.tail,0,0,a,rfl,rfl,hA4,.inl ⟨rfl,qzf hK (fun p' c hc hE r i' ts' hb' hA'=>?_) (fun r ts5 i5 e hK hA5=>?_)⟩⟩
               · simp only[go_sem]
                 refine⟨T,i',ts',c,p',rfl,rfl,hA',.inr ⟨hc,fun w _=>?_⟩⟩
                 simp only[go_sem]
                 have hl2:ds.length+1=acc.length:=by rw[lB]at hl;exact hl
                 refine⟨by omega,by omega,by simp,by omega,by omega,by simp,?_⟩
                 exact⟨_,qzb (qzc (qzo (stand2 hS (r:=r) (qzk r) (qzk w)))),hE (.node 6 t 0 at_ (acc++[r,w])) i' trivial ⟨ts',hA'⟩⟩
               · simp only[go_sem];refine⟨T,i5,ts5,0,a,rfl,rfl,hA5,.inl ⟨rfl,qzf hK (fun p' c hc hE w i' ts' hb' hA'=>?_) (fun w ts9 i9 e hK hA9=>?_)⟩⟩
                 · simp only[go_sem]
                   have hl2:ds.length+1=acc.length:=by rw[lB]at hl;exact hl
                   refine⟨by omega,by omega,by simp,by omega,by omega,by simp,?_⟩
                   exact⟨_,qzb (qzc (qzo (stand2 hS (r:=r) (qzk r) (qzk w)))),hE (.node 6 t 0 at_ (acc++[r,w])) i' trivial ⟨ts',hA'⟩⟩
                 · simp only[go_sem]
                   have hl2:ds.length+1=acc.length:=by rw[lB]at hl;exact hl
                   refine⟨by omega,by omega,by simp,by omega,by omega,by simp,?_⟩
                   exact⟨_,qzb (qzc (qzo (stand2 hS (r:=r) (qzk r) (qzk w)))),hK i9 hA9⟩
           · rw[if_neg (qzg h)]at hK;replace hK:trQ' T 0 a Kr (Lg.bnd (Lg.block 8 ts3) fun b ts=>.ok (.node 6 t 0 at_ (acc++[Tree.node 8 [] 0 (Lg.hd ts3).pos [],b]),ts)):=hK;simp only[go_sem];refine⟨T,i3,ts3,0,a,rfl,rfl,hA3,.inl ⟨rfl,qzf hK (fun p' c hc hE w i' ts' hb' hA'=>?_) (fun w ts9 i9 e hK hA9=>?_)⟩⟩
             · simp only[go_sem]
               have hl2:ds.length+1=acc.length:=by rw[lB]at hl;exact hl
               refine⟨by omega,by omega,by simp,by omega,by omega,by simp,?_⟩
               exact⟨_,qzb (qzc (qzo (stand2 hS (r:=Tree.node 8 [] 0 (Lg.hd ts3).pos []) (qzc (.nil _ _)) (qzk w)))),hE (.node 6 t 0 at_ (acc++[Tree.node 8 [] 0 (Lg.hd ts3).pos [],w])) i' trivial ⟨ts',hA'⟩⟩
             · simp only[go_sem]
               have hl2:ds.length+1=acc.length:=by rw[lB]at hl;exact hl
               refine⟨by omega,by omega,by simp,by omega,by omega,by simp,?_⟩
               exact⟨_,qzb (qzc (qzo (stand2 hS (r:=Tree.node 8 [] 0 (Lg.hd ts3).pos []) (qzc (.nil _ _)) (qzk w)))),hK i9 hA9⟩
       |bad ds acc i3 c p'=>
        obtain⟨hc,⟨ts',hA'⟩,hS,hn,hE⟩:=hq
        cases ds with
        |nil=>
         dsimp only[fnF,fnSt,bkLV,bkAr];have hl:=hS.len;simp only[rbx,go_sem];refine qqo [] [1000] [0,1,2,3,4,5,6,7,8,9,10] (wB 11 (wD 12 13 wZ) 12 (wD 11 13 wZ)) ⟨91,put 0 (.bp 1000 0) (put 4 (.bp 4 0) (put 5 (.bp 5 0) (put 10 (.bp 10 0) nix))),put 1000 (rbx T i3 0 c p') (put 4 ⟨qvp,100⟩ (put 5 ⟨[.d (.int .i64 6),.d (.st t),.d (.int .i64 0),.d (.int .i64 at_),.d (.imm (.slice none 0 0))],100⟩ (put 10 ⟨[.d (.int .i64 8),.d (.st []),.d (.int .i64 0),.d (.int .i64 (Lg.hd ts').pos),.d (.imm (.slice none 0 0))],100⟩ nix))),nix⟩ (by decide) ?_ ?_
         · simp only[rbx,lE,lA,hA'.i0,hA'.i1,hA'.get,tokD,go_sem]
           repeat' apply And.intro
           all_goals exact zsub (sP4 qza) (sP4 qza) qza
         · simp only[go_sem];refine⟨T,i3,ts',0,c,p',_,rfl,rfl,hA',.inr ⟨hc,?_⟩⟩;simp only[go_sem]
           refine⟨T,i3,ts',c,p',rfl,rfl,hA',.inr ⟨hc,fun w _=>?_⟩⟩
           simp only[go_sem];exact⟨_,qzb (qzc (qzo (stand2 hS (r:=Tree.node 8 [] 0 (Lg.hd ts').pos []) (qzc (.nil _ _)) (qzk w)))),hE (.node 6 t 0 at_ (acc++[Tree.node 8 [] 0 (Lg.hd ts').pos [],w])) i3 trivial ⟨ts',hA'⟩⟩
        |cons d ds=>
         dsimp only[fnF,fnSt,bkLV,bkAr];have hl:=hS.len;simp only[rbx,go_sem];refine qqo [] [1000] [0,1,2,3,4,5,6,7,8,9,10] (wB 11 (wD 12 13 wZ) 12 (wD 11 13 wZ)) ⟨91,put 0 (.bp 1000 0) (put 4 (.bp 4 0) (put 5 (.bp 5 0) (put 10 (.bp 10 0) nix))),put 1000 (rbx T i3 0 c p') (put 4 ⟨qvp,100⟩ (put 5 ⟨[.d (.int .i64 6),.d (.st t),.d (.int .i64 0),.d (.int .i64 at_),.os 46 5 (ds.length+1)],100⟩ (put 10 ⟨[.d (.int .i64 8),.d (.st []),.d (.int .i64 0),.d (.int .i64 (Lg.hd ts').pos),.d (.imm (.slice none 0 0))],100⟩ nix))),(put 46 (5,100,d::ds) nix)⟩ (by decide) ?_ ?_
         · simp only[rbx,lE,lA,hA'.i0,hA'.i1,hA'.get,tokD,go_sem]
           repeat' apply And.intro
           all_goals exact zsub (sP4 qza) (sP4 qza) (sP1 qza)
         · simp only[go_sem];refine⟨T,i3,ts',0,c,p',_,rfl,rfl,hA',.inr ⟨hc,?_⟩⟩;simp only[go_sem]
           refine⟨T,i3,ts',c,p',rfl,rfl,hA',.inr ⟨hc,fun w _=>?_⟩⟩
           simp only[go_sem]
           have hl2:ds.length+1=acc.length:=by rw[lB]at hl;exact hl
           refine⟨by omega,by omega,by simp,by omega,by omega,by simp,?_⟩
           exact⟨_,qzb (qzc (qzo (stand2 hS (r:=Tree.node 8 [] 0 (Lg.hd ts').pos []) (qzc (.nil _ _)) (qzk w)))),hE (.node 6 t 0 at_ (acc++[Tree.node 8 [] 0 (Lg.hd ts').pos [],w])) i3 trivial ⟨ts',hA'⟩⟩
     · rw [if_neg (qzg h)]at hK;simp only[go_sem]
       refine qzj (T:={q:FnQ //fnOk T a Kr t at_ q}) (fun q=>fnF T a t at_ q.val) (fun q=>fnM q.val) ⟨.go [] [] i2 ts2,hA2,.nil,by show 0+ts2.length<=2097152;omega,hK⟩
        (zsub (sP4 qza) (sP3 qza) qza) ?_
       rintro⟨q,hq⟩
       cases q with
       |go ds acc i3 ts3=>
        obtain⟨hA3,hS,hn,hK⟩:=hq
        cases ds with
        |nil=>
         dsimp only[fnF,fnSt,bkLV,bkAr];have hl:=hS.len;simp only[rbx,go_sem];unfold Lg.param at hK;simp only[bnd3]at hK;refine⟨T,i3,ts3,0,0,a,rfl,rfl,hA3,.inl ⟨rfl,qzf hK (fun p' c hc hE v i' ts' hb' hA'=>?_) (fun v ts4 i4 e hK hA4=>?_)⟩⟩
         · simp only[go_sem]
           (refine⟨_,T,i',ts',0,c,p',rfl,rfl,hA',.inr ⟨hc,fun _ _=>?_⟩⟩;simp only[go_sem])
           (refine⟨T,i',ts',0,c,p',rfl,rfl,hA',.inr ⟨hc,fun m hy_m=>?_⟩⟩;simp only[go_sem])
           (refine⟨T,i',ts',0,c,p',_,rfl,rfl,hA',.inr ⟨hc,?_⟩⟩;simp only[go_sem])
           (refine⟨_,T,i',ts',0,c,p',rfl,rfl,hA',.inr ⟨hc,fun _ _=>?_⟩⟩;simp only[go_sem])
           exact⟨⟨.bad ([]++[PD v m]) (acc++[PT v m]) i' c p',hc,⟨ts',hA'⟩,hS.snoc (qjt v m),by rw[lC,List.length_singleton];omega,hE⟩,zsub (sP4 qza) (sP3 qza) (sP1 qza),Nat.succ_pos _⟩
         · have hv:=qqm e;have h1:=Lg.qql _ _ _ e;obtain⟨k,t1,m1,p,ks⟩:=v;cases hv;simp only[go_sem];refine⟨_,T,i4,ts4,0,0,a,rfl,rfl,hA4,.inl ⟨rfl,qzf hK (fun p' c hc hE _ i' ts' hb' hA'=>?_) (fun _ ts5 i5 e hK hA5=>?_)⟩⟩
           · simp only[go_sem]
             (refine⟨T,i',ts',0,c,p',rfl,rfl,hA',.inr ⟨hc,fun m hy_m=>?_⟩⟩;simp only[go_sem])
             (refine⟨T,i',ts',0,c,p',_,rfl,rfl,hA',.inr ⟨hc,?_⟩⟩;simp only[go_sem])
             (refine⟨_,T,i',ts',0,c,p',rfl,rfl,hA',.inr ⟨hc,fun _ _=>?_⟩⟩;simp only[go_sem])
             exact⟨⟨.bad ([]++[PD (.node k t1 m1 p []) m]) (acc++[PT (.node k t1 m1 p []) m]) i' c p',hc,⟨ts',hA'⟩,hS.snoc (qjt _ m),by rw[lC,List.length_singleton];omega,hE⟩,zsub (sP4 qza) (sP3 qza) (sP1 qza),Nat.succ_pos _⟩
           · have h2:=Lg.qqn _ _ _ _ e;simp only[go_sem];refine⟨T,i5,ts5,0,0,a,rfl,rfl,hA5,.inl ⟨rfl,qzf hK (fun p' c hc hE m i' ts' hb' hA'=>?_) (fun m ts6 i6 e hK hA6=>?_)⟩⟩
             · simp only[go_sem]
               (refine⟨T,i',ts',0,c,p',_,rfl,rfl,hA',.inr ⟨hc,?_⟩⟩;simp only[go_sem])
               (refine⟨_,T,i',ts',0,c,p',rfl,rfl,hA',.inr ⟨hc,fun _ _=>?_⟩⟩;simp only[go_sem])
               exact⟨⟨.bad ([]++[PD (.node k t1 m1 p []) m]) (acc++[PT (.node k t1 m1 p []) m]) i' c p',hc,⟨ts',hA'⟩,hS.snoc (qjt _ m),by rw[lC,List.length_singleton];omega,hE⟩,zsub (sP4 qza) (sP3 qza) (sP1 qza),Nat.succ_pos _⟩
             · have h3:=Lg.mode_eats _ _ _ e;simp only[go_sem]
               refine⟨T,i6,ts6,0,0,a,Lg.sComma,rfl,rfl,hA6,.inl ⟨rfl,fun h=>?_,fun h=>?_⟩⟩
               · have hK2:trQ' T 0 a Kr (qj8 Lg.param (fnKP t at_) (acc++[PT (.node k t1 m1 p []) m]) ts6):=hK;rw[qq7 Lg.param_eats h]at hK2;simp only[go_sem]
                 exact⟨⟨.go ([]++[PD (.node k t1 m1 p []) m]) (acc++[PT (.node k t1 m1 p []) m]) (i6+1) ts6.tail,hA6.isT h,hS.snoc (qjt _ m),by rw[lC,List.length_singleton,List.length_tail];omega,hK2⟩,zsub (sP4 qza) (sP3 qza) (sP1 qza),by show ts6.tail.length+1<ts3.length+1;rw[List.length_tail];omega⟩
               · have hK2:trQ' T 0 a Kr (qj8 Lg.param (fnKP t at_) (acc++[PT (.node k t1 m1 p []) m]) ts6):=hK;rw[qxz h]at hK2;replace hK:=hK2;simp only[go_sem];refine⟨_,T,i6,ts6,0,0,a,rfl,rfl,hA6,.inl ⟨rfl,qzf hK (fun p' c hc hE _ i' ts' hb' hA'=>?_) (fun _ ts7 i7 e hK hA7=>?_)⟩⟩
                 · simp only[go_sem]
                   exact⟨⟨.bad ([]++[PD (.node k t1 m1 p []) m]) (acc++[PT (.node k t1 m1 p []) m]) i' c p',hc,⟨ts',hA'⟩,hS.snoc (qjt _ m),by rw[lC,List.length_singleton];omega,hE⟩,zsub (sP4 qza) (sP3 qza) (sP1 qza),Nat.succ_pos _⟩
                 · have h4:=Lg.qqn _ _ _ _ e;simp only[go_sem]
                   exact⟨⟨.fin ([]++[PD (.node k t1 m1 p []) m]) (acc++[PT (.node k t1 m1 p []) m]) i7 ts7,hA7,hS.snoc (qjt _ m),by rw[lC,List.length_singleton];omega,hK⟩,zsub (sP4 qza) (sP3 qza) (sP1 qza),Nat.succ_pos _⟩
        |cons d ds=>
         dsimp only[fnF,fnSt,bkLV,bkAr];have hl:=hS.len;simp only[rbx,go_sem];unfold Lg.param at hK;simp only[bnd3]at hK;refine⟨T,i3,ts3,0,0,a,rfl,rfl,hA3,.inl ⟨rfl,qzf hK (fun p' c hc hE v i' ts' hb' hA'=>?_) (fun v ts4 i4 e hK hA4=>?_)⟩⟩
         · simp only[go_sem]
           (refine⟨_,T,i',ts',0,c,p',rfl,rfl,hA',.inr ⟨hc,fun _ _=>?_⟩⟩;simp only[go_sem])
           (refine⟨T,i',ts',0,c,p',rfl,rfl,hA',.inr ⟨hc,fun m hy_m=>?_⟩⟩;simp only[go_sem])
           refine⟨by simp only[lB]at hl;omega,by simp only[lB]at hl;omega,?_⟩
           (refine⟨T,i',ts',0,c,p',_,rfl,rfl,hA',.inr ⟨hc,?_⟩⟩;simp only[go_sem])
           (refine⟨_,T,i',ts',0,c,p',rfl,rfl,hA',.inr ⟨hc,fun _ _=>?_⟩⟩;simp only[go_sem])
           exact⟨⟨.bad ((d::ds)++[PD v m]) (acc++[PT v m]) i' c p',hc,⟨ts',hA'⟩,hS.snoc (qjt v m),by rw[lC,List.length_singleton];omega,hE⟩,zsub (sP4 qza) (sP2 (qzd (by simp[put,bkLV]) qza)) (sP1 qza),Nat.succ_pos _⟩
         · have hv:=qqm e;have h1:=Lg.qql _ _ _ e;obtain⟨k,t1,m1,p,ks⟩:=v;cases hv;simp only[go_sem];refine⟨_,T,i4,ts4,0,0,a,rfl,rfl,hA4,.inl ⟨rfl,qzf hK (fun p' c hc hE _ i' ts' hb' hA'=>?_) (fun _ ts5 i5 e hK hA5=>?_)⟩⟩
           · simp only[go_sem]
             (refine⟨T,i',ts',0,c,p',rfl,rfl,hA',.inr ⟨hc,fun m hy_m=>?_⟩⟩;simp only[go_sem])
             refine⟨by simp only[lB]at hl;omega,by simp only[lB]at hl;omega,?_⟩
             (refine⟨T,i',ts',0,c,p',_,rfl,rfl,hA',.inr ⟨hc,?_⟩⟩;simp only[go_sem])
             (refine⟨_,T,i',ts',0,c,p',rfl,rfl,hA',.inr ⟨hc,fun _ _=>?_⟩⟩;simp only[go_sem])
             exact⟨⟨.bad ((d::ds)++[PD (.node k t1 m1 p []) m]) (acc++[PT (.node k t1 m1 p []) m]) i' c p',hc,⟨ts',hA'⟩,hS.snoc (qjt _ m),by rw[lC,List.length_singleton];omega,hE⟩,zsub (sP4 qza) (sP2 (qzd (by simp[put,bkLV]) qza)) (sP1 qza),Nat.succ_pos _⟩
           · have h2:=Lg.qqn _ _ _ _ e;simp only[go_sem];refine⟨T,i5,ts5,0,0,a,rfl,rfl,hA5,.inl ⟨rfl,qzf hK (fun p' c hc hE m i' ts' hb' hA'=>?_) (fun m ts6 i6 e hK hA6=>?_)⟩⟩
             · simp only[go_sem]
               refine⟨by simp only[lB]at hl;omega,by simp only[lB]at hl;omega,?_⟩
               (refine⟨T,i',ts',0,c,p',_,rfl,rfl,hA',.inr ⟨hc,?_⟩⟩;simp only[go_sem])
               (refine⟨_,T,i',ts',0,c,p',rfl,rfl,hA',.inr ⟨hc,fun _ _=>?_⟩⟩;simp only[go_sem])
               exact⟨⟨.bad ((d::ds)++[PD (.node k t1 m1 p []) m]) (acc++[PT (.node k t1 m1 p []) m]) i' c p',hc,⟨ts',hA'⟩,hS.snoc (qjt _ m),by rw[lC,List.length_singleton];omega,hE⟩,zsub (sP4 qza) (sP2 (qzd (by simp[put,bkLV]) qza)) (sP1 qza),Nat.succ_pos _⟩
             · have h3:=Lg.mode_eats _ _ _ e;simp only[go_sem]
               refine⟨by simp only[lB]at hl;omega,by simp only[lB]at hl;omega,?_⟩
               refine⟨T,i6,ts6,0,0,a,Lg.sComma,rfl,rfl,hA6,.inl ⟨rfl,fun h=>?_,fun h=>?_⟩⟩
               · have hK2:trQ' T 0 a Kr (qj8 Lg.param (fnKP t at_) (acc++[PT (.node k t1 m1 p []) m]) ts6):=hK;rw[qq7 Lg.param_eats h]at hK2;simp only[go_sem]
                 exact⟨⟨.go ((d::ds)++[PD (.node k t1 m1 p []) m]) (acc++[PT (.node k t1 m1 p []) m]) (i6+1) ts6.tail,hA6.isT h,hS.snoc (qjt _ m),by rw[lC,List.length_singleton,List.length_tail];omega,hK2⟩,zsub (sP4 qza) (sP2 (qzd (by simp[put,bkLV]) qza)) (sP1 qza),by show ts6.tail.length+1<ts3.length+1;rw[List.length_tail];omega⟩
               · have hK2:trQ' T 0 a Kr (qj8 Lg.param (fnKP t at_) (acc++[PT (.node k t1 m1 p []) m]) ts6):=hK;rw[qxz h]at hK2;replace hK:=hK2;simp only[go_sem];refine⟨_,T,i6,ts6,0,0,a,rfl,rfl,hA6,.inl ⟨rfl,qzf hK (fun p' c hc hE _ i' ts' hb' hA'=>?_) (fun _ ts7 i7 e hK hA7=>?_)⟩⟩
                 · simp only[go_sem]
                   exact⟨⟨.bad ((d::ds)++[PD (.node k t1 m1 p []) m]) (acc++[PT (.node k t1 m1 p []) m]) i' c p',hc,⟨ts',hA'⟩,hS.snoc (qjt _ m),by rw[lC,List.length_singleton];omega,hE⟩,zsub (sP4 qza) (sP2 (qzd (by simp[put,bkLV]) qza)) (sP1 qza),Nat.succ_pos _⟩
                 · have h4:=Lg.qqn _ _ _ _ e;simp only[go_sem]
                   exact⟨⟨.fin ((d::ds)++[PD (.node k t1 m1 p []) m]) (acc++[PT (.node k t1 m1 p []) m]) i7 ts7,hA7,hS.snoc (qjt _ m),by rw[lC,List.length_singleton];omega,hK⟩,zsub (sP4 qza) (sP2 (qzd (by simp[put,bkLV]) qza)) (sP1 qza),Nat.succ_pos _⟩
       |fin ds acc i3 ts3=>
        obtain⟨hA3,hS,hn,hK⟩:=hq
        cases ds with
        |nil=>
         dsimp only[fnF,fnSt,bkLV,bkAr];have hl:=hS.len;simp only[rbx,go_sem];refine qqo [] [1000] [0,1,2,3,4,5,6,7,8,9,10] (wB 11 (wD 12 13 wZ) 12 (wD 11 13 wZ)) ⟨91,put 0 (.bp 1000 0) (put 4 (.bp 4 0) (put 5 (.bp 5 0) (put 10 (.bp 10 0) nix))),put 1000 (rbx T i3 0 0 a) (put 4 ⟨qvp,100⟩ (put 5 ⟨[.d (.int .i64 6),.d (.st t),.d (.int .i64 0),.d (.int .i64 at_),.d (.imm (.slice none 0 0))],100⟩ (put 10 ⟨[.d (.int .i64 8),.d (.st []),.d (.int .i64 0),.d (.int .i64 (Lg.hd ts3).pos),.d (.imm (.slice none 0 0))],100⟩ nix))),nix⟩ (by decide) ?_ ?_
         · simp only[rbx,lE,lA,hA3.i0,hA3.i1,hA3.get,tokD,go_sem]
           repeat' apply And.intro
           all_goals exact zsub (sP4 qza) (sP4 qza) qza
         · simp only[go_sem];unfold fnK2 Lg.fnRet at hK
           refine⟨T,i3,ts3,0,0,a,Lg.sArrow,rfl,rfl,hA3,.inl ⟨rfl,fun h=>?_,fun h=>?_⟩⟩
           · rw[if_pos h]at hK;have hA4:=hA3.isT h;simp only[go_sem];refine⟨T,i3+1,ts3.tail,0,0,a,Lg.sAmp,rfl,rfl,hA4,.inl ⟨rfl,?_⟩⟩;simp only[go_sem]
             refine⟨fun h2=>?_,fun h2=>?_⟩
             · rw[if_pos h2]at hK;have hE:flQ T 0 (fun _=>True) (fun t=>.d (qzr t)) Kr 20 (Lg.hd ts3.tail).pos:=hK (by decide);refine⟨T,i3+1,ts3.tail,0,0,a,20,rfl,rfl,hA4,.inl ⟨rfl,?_⟩⟩;simp only[go_sem]
               refine⟨T,i3+1,ts3.tail,0,20,(Lg.hd ts3.tail).pos,rfl,rfl,hA4,.inr ⟨by decide,fun r _=>?_⟩⟩
               simp only[go_sem]
               refine⟨T,i3+1,ts3.tail,20,(Lg.hd ts3.tail).pos,rfl,rfl,hA4,.inr ⟨by decide,fun w _=>?_⟩⟩
               simp only[go_sem];exact⟨_,qzb (qzc (qzo (stand2 hS (r:=r) (qzk r) (qzk w)))),hE (.node 6 t 0 at_ (acc++[r,w])) (i3+1) trivial ⟨_,hA4⟩⟩
             · rw[if_neg (qzg h2)]at hK;refine⟨T,i3+1,ts3.tail,0,0,a,rfl,rfl,hA4,.inl ⟨rfl,qzf hK (fun p' c hc hE r i' ts' hb' hA'=>?_) (fun r ts5 i5 e hK hA5=>?_)⟩⟩
               · simp only[go_sem]
                 refine⟨T,i',ts',c,p',rfl,rfl,hA',.inr ⟨hc,fun w _=>?_⟩⟩
                 simp only[go_sem];exact⟨_,qzb (qzc (qzo (stand2 hS (r:=r) (qzk r) (qzk w)))),hE (.node 6 t 0 at_ (acc++[r,w])) i' trivial ⟨ts',hA'⟩⟩
               · simp only[go_sem];refine⟨T,i5,ts5,0,a,rfl,rfl,hA5,.inl ⟨rfl,qzf hK (fun p' c hc hE w i' ts' hb' hA'=>?_) (fun w ts9 i9 e hK hA9=>?_)⟩⟩
                 ·simp only[go_sem];exact⟨_,qzb (qzc (qzo (stand2 hS (r:=r) (qzk r) (qzk w)))),hE (.node 6 t 0 at_ (acc++[r,w])) i' trivial ⟨ts',hA'⟩⟩
                 ·simp only[go_sem];exact⟨_,qzb (qzc (qzo (stand2 hS (r:=r) (qzk r) (qzk w)))),hK i9 hA9⟩
           · rw[if_neg (qzg h)]at hK;replace hK:trQ' T 0 a Kr (Lg.bnd (Lg.block 8 ts3) fun b ts=>.ok (.node 6 t 0 at_ (acc++[Tree.node 8 [] 0 (Lg.hd ts3).pos [],b]),ts)):=hK;simp only[go_sem];refine⟨T,i3,ts3,0,a,rfl,rfl,hA3,.inl ⟨rfl,qzf hK (fun p' c hc hE w i' ts' hb' hA'=>?_) (fun w ts9 i9 e hK hA9=>?_)⟩⟩
             ·simp only[go_sem];exact⟨_,qzb (qzc (qzo (stand2 hS (r:=Tree.node 8 [] 0 (Lg.hd ts3).pos []) (qzc (.nil _ _)) (qzk w)))),hE (.node 6 t 0 at_ (acc++[Tree.node 8 [] 0 (Lg.hd ts3).pos [],w])) i' trivial ⟨ts',hA'⟩⟩
             ·simp only[go_sem];exact⟨_,qzb (qzc (qzo (stand2 hS (r:=Tree.node 8 [] 0 (Lg.hd ts3).pos []) (qzc (.nil _ _)) (qzk w)))),hK i9 hA9⟩
        |cons d ds=>
         dsimp only[fnF,fnSt,bkLV,bkAr];have hl:=hS.len;simp only[rbx,go_sem];refine qqo [] [1000] [0,1,2,3,4,5,6,7,8,9,10] (wB 11 (wD 12 13 wZ) 12 (wD 11 13 wZ)) ⟨91,put 0 (.bp 1000 0) (put 4 (.bp 4 0) (put 5 (.bp 5 0) (put 10 (.bp 10 0) nix))),put 1000 (rbx T i3 0 0 a) (put 4 ⟨qvp,100⟩ (put 5 ⟨[.d (.int .i64 6),.d (.st t),.d (.int .i64 0),.d (.int .i64 at_),.os 46 5 (ds.length+1)],100⟩ (put 10 ⟨[.d (.int .i64 8),.d (.st []),.d (.int .i64 0),.d (.int .i64 (Lg.hd ts3).pos),.d (.imm (.slice none 0 0))],100⟩ nix))),(put 46 (5,100,d::ds) nix)⟩ (by decide) ?_ ?_
         · simp only[rbx,lE,lA,hA3.i0,hA3.i1,hA3.get,tokD,go_sem]
           repeat' apply And.intro
           all_goals exact zsub (sP4 qza) (sP4 qza) (sP1 qza)
         · simp only[go_sem];unfold fnK2 Lg.fnRet at hK
           refine⟨T,i3,ts3,0,0,a,Lg.sArrow,rfl,rfl,hA3,.inl ⟨rfl,fun h=>?_,fun h=>?_⟩⟩
           · rw[if_pos h]at hK;have hA4:=hA3.isT h;simp only[go_sem];refine⟨T,i3+1,ts3.tail,0,0,a,Lg.sAmp,rfl,rfl,hA4,.inl ⟨rfl,?_⟩⟩;simp only[go_sem]
             refine⟨fun h2=>?_,fun h2=>?_⟩
             · rw[if_pos h2]at hK;have hE:flQ T 0 (fun _=>True) (fun t=>.d (qzr t)) Kr 20 (Lg.hd ts3.tail).pos:=hK (by decide);refine⟨T,i3+1,ts3.tail,0,0,a,20,rfl,rfl,hA4,.inl ⟨rfl,?_⟩⟩;simp only[go_sem]
               refine⟨T,i3+1,ts3.tail,0,20,(Lg.hd ts3.tail).pos,rfl,rfl,hA4,.inr ⟨by decide,fun r _=>?_⟩⟩
               simp only[go_sem]
               refine⟨T,i3+1,ts3.tail,20,(Lg.hd ts3.tail).pos,rfl,rfl,hA4,.inr ⟨by decide,fun w _=>?_⟩⟩
               simp only[go_sem]
               have hl2:ds.length+1=acc.length:=by rw[lB]at hl;exact hl
               refine⟨by omega,by omega,by simp,by omega,by omega,by simp,?_⟩
               exact⟨_,qzb (qzc (qzo (stand2 hS (r:=r) (qzk r) (qzk w)))),hE (.node 6 t 0 at_ (acc++[r,w])) (i3+1) trivial ⟨_,hA4⟩⟩
             · rw[if_neg (qzg h2)]at hK;refine⟨T,i3+1,ts3.tail,0,0,a,rfl,rfl,hA4,.inl ⟨rfl,qzf hK (fun p' c hc hE r i' ts' hb' hA'=>?_) (fun r ts5 i5 e hK hA5=>?_)⟩⟩
               · simp only[go_sem]
                 refine⟨T,i',ts',c,p',rfl,rfl,hA',.inr ⟨hc,fun w _=>?_⟩⟩
                 simp only[go_sem]
                 have hl2:ds.length+1=acc.length:=by rw[lB]at hl;exact hl
                 refine⟨by omega,by omega,by simp,by omega,by omega,by simp,?_⟩
                 exact⟨_,qzb (qzc (qzo (stand2 hS (r:=r) (qzk r) (qzk w)))),hE (.node 6 t 0 at_ (acc++[r,w])) i' trivial ⟨ts',hA'⟩⟩
               · simp only[go_sem];refine⟨T,i5,ts5,0,a,rfl,rfl,hA5,.inl ⟨rfl,qzf hK (fun p' c hc hE w i' ts' hb' hA'=>?_) (fun w ts9 i9 e hK hA9=>?_)⟩⟩
                 · simp only[go_sem]
                   have hl2:ds.length+1=acc.length:=by rw[lB]at hl;exact hl
                   refine⟨by omega,by omega,by simp,by omega,by omega,by simp,?_⟩
                   exact⟨_,qzb (qzc (qzo (stand2 hS (r:=r) (qzk r) (qzk w)))),hE (.node 6 t 0 at_ (acc++[r,w])) i' trivial ⟨ts',hA'⟩⟩
                 · simp only[go_sem]
                   have hl2:ds.length+1=acc.length:=by rw[lB]at hl;exact hl
                   refine⟨by omega,by omega,by simp,by omega,by omega,by simp,?_⟩
                   exact⟨_,qzb (qzc (qzo (stand2 hS (r:=r) (qzk r) (qzk w)))),hK i9 hA9⟩
           · rw[if_neg (qzg h)]at hK;replace hK:trQ' T 0 a Kr (Lg.bnd (Lg.block 8 ts3) fun b ts=>.ok (.node 6 t 0 at_ (acc++[Tree.node 8 [] 0 (Lg.hd ts3).pos [],b]),ts)):=hK;simp only[go_sem];refine⟨T,i3,ts3,0,a,rfl,rfl,hA3,.inl ⟨rfl,qzf hK (fun p' c hc hE w i' ts' hb' hA'=>?_) (fun w ts9 i9 e hK hA9=>?_)⟩⟩
             · simp only[go_sem]
               have hl2:ds.length+1=acc.length:=by rw[lB]at hl;exact hl
               refine⟨by omega,by omega,by simp,by omega,by omega,by simp,?_⟩
               exact⟨_,qzb (qzc (qzo (stand2 hS (r:=Tree.node 8 [] 0 (Lg.hd ts3).pos []) (qzc (.nil _ _)) (qzk w)))),hE (.node 6 t 0 at_ (acc++[Tree.node 8 [] 0 (Lg.hd ts3).pos [],w])) i' trivial ⟨ts',hA'⟩⟩
             · simp only[go_sem]
               have hl2:ds.length+1=acc.length:=by rw[lB]at hl;exact hl
               refine⟨by omega,by omega,by simp,by omega,by omega,by simp,?_⟩
               exact⟨_,qzb (qzc (qzo (stand2 hS (r:=Tree.node 8 [] 0 (Lg.hd ts3).pos []) (qzc (.nil _ _)) (qzk w)))),hK i9 hA9⟩
       |bad ds acc i3 c p'=>
        obtain⟨hc,⟨ts',hA'⟩,hS,hn,hE⟩:=hq
        cases ds with
        |nil=>
         dsimp only[fnF,fnSt,bkLV,bkAr];have hl:=hS.len;simp only[rbx,go_sem];refine qqo [] [1000] [0,1,2,3,4,5,6,7,8,9,10] (wB 11 (wD 12 13 wZ) 12 (wD 11 13 wZ)) ⟨91,put 0 (.bp 1000 0) (put 4 (.bp 4 0) (put 5 (.bp 5 0) (put 10 (.bp 10 0) nix))),put 1000 (rbx T i3 0 c p') (put 4 ⟨qvp,100⟩ (put 5 ⟨[.d (.int .i64 6),.d (.st t),.d (.int .i64 0),.d (.int .i64 at_),.d (.imm (.slice none 0 0))],100⟩ (put 10 ⟨[.d (.int .i64 8),.d (.st []),.d (.int .i64 0),.d (.int .i64 (Lg.hd ts').pos),.d (.imm (.slice none 0 0))],100⟩ nix))),nix⟩ (by decide) ?_ ?_
         · simp only[rbx,lE,lA,hA'.i0,hA'.i1,hA'.get,tokD,go_sem]
           repeat' apply And.intro
           all_goals exact zsub (sP4 qza) (sP4 qza) qza
         · simp only[go_sem];refine⟨T,i3,ts',0,c,p',_,rfl,rfl,hA',.inr ⟨hc,?_⟩⟩;simp only[go_sem]
           refine⟨T,i3,ts',c,p',rfl,rfl,hA',.inr ⟨hc,fun w _=>?_⟩⟩
           simp only[go_sem];exact⟨_,qzb (qzc (qzo (stand2 hS (r:=Tree.node 8 [] 0 (Lg.hd ts').pos []) (qzc (.nil _ _)) (qzk w)))),hE (.node 6 t 0 at_ (acc++[Tree.node 8 [] 0 (Lg.hd ts').pos [],w])) i3 trivial ⟨ts',hA'⟩⟩
        |cons d ds=>
         dsimp only[fnF,fnSt,bkLV,bkAr];have hl:=hS.len;simp only[rbx,go_sem];refine qqo [] [1000] [0,1,2,3,4,5,6,7,8,9,10] (wB 11 (wD 12 13 wZ) 12 (wD 11 13 wZ)) ⟨91,put 0 (.bp 1000 0) (put 4 (.bp 4 0) (put 5 (.bp 5 0) (put 10 (.bp 10 0) nix))),put 1000 (rbx T i3 0 c p') (put 4 ⟨qvp,100⟩ (put 5 ⟨[.d (.int .i64 6),.d (.st t),.d (.int .i64 0),.d (.int .i64 at_),.os 46 5 (ds.length+1)],100⟩ (put 10 ⟨[.d (.int .i64 8),.d (.st []),.d (.int .i64 0),.d (.int .i64 (Lg.hd ts').pos),.d (.imm (.slice none 0 0))],100⟩ nix))),(put 46 (5,100,d::ds) nix)⟩ (by decide) ?_ ?_
         · simp only[rbx,lE,lA,hA'.i0,hA'.i1,hA'.get,tokD,go_sem]
           repeat' apply And.intro
           all_goals exact zsub (sP4 qza) (sP4 qza) (sP1 qza)
         · simp only[go_sem];refine⟨T,i3,ts',0,c,p',_,rfl,rfl,hA',.inr ⟨hc,?_⟩⟩;simp only[go_sem]
           refine⟨T,i3,ts',c,p',rfl,rfl,hA',.inr ⟨hc,fun w _=>?_⟩⟩
           simp only[go_sem]
           have hl2:ds.length+1=acc.length:=by rw[lB]at hl;exact hl
           refine⟨by omega,by omega,by simp,by omega,by omega,by simp,?_⟩
           exact⟨_,qzb (qzc (qzo (stand2 hS (r:=Tree.node 8 [] 0 (Lg.hd ts').pos []) (qzc (.nil _ _)) (qzk w)))),hE (.node 6 t 0 at_ (acc++[Tree.node 8 [] 0 (Lg.hd ts').pos [],w])) i3 trivial ⟨ts',hA'⟩⟩
end Lx
