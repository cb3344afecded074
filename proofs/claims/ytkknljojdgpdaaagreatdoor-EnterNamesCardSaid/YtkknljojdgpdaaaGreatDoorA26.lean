import Derived.Test.YtkknljojdgpdaaaGreatDoorA24
import Derived.Test.YtkknljojdgpdaaaGreatDoorA23
import Derived.Test.YtkknljojdgpdaaaGreatDoorA15
import Derived.Test.YtkknljojdgpdaaaGreatDoorA22
import Derived.Test.YtkknljojdgpdaaaGreatDoorA25
set_option maxHeartbeats 32000000
set_option linter.unusedSimpArgs false
set_option linter.unusedVariables false
set_option maxRecDepth 20000
namespace Lx
open Go
open Lg (Tok Tree)
open Go.Proofs (Tryz.prog)
open Go.Proofs.Tryz
abbrev expD (t:Tree):D:=.ag [.int .i64 t.kind,.st t.text,.int .i64 t.num,.int .i64 t.pos,.sl 5 (qze t.kids) false]
theorem name_num {ts ts':List Tok}{w:Tree}(h:Lg.name ts=.ok (w,ts')):w.num=0:=by
 obtain⟨t,l,_,h⟩:=Lg.qzs h;cases h;rfl
abbrev zws (N:Tree)(gs:List Tree)(ts:List Tok):Lg.PR Tree:=Lg.bnd (Lg.must Lg.sSemi ts) fun _ ts=>.ok (N.withKids (N.kids++gs),ts)
abbrev fieldK (nm:Bs)(at_:Int)(s:Tree)(fs:List Tree)(ts:List Tok):Lg.PR Tree:=Lg.bnd (Lg.must Lg.sRcu ts) fun _ ts=>Lg.qxw (.node 1 nm 0 at_ (s::fs)) ts
theorem zqw {N:Tree}{ts:List Tok}(h:Lg.isT Lg.sWhere ts=true):Lg.qxw N ts=Lg.bnd (Lg.fact ts.tail) fun x ts'=>qj8 Lg.fact (zws N) [x] ts':=by
 unfold Lg.qxw;rw[if_pos h,qwp]
theorem zxm {N:Tree}{ts:List Tok}(h:Lg.isT Lg.sWhere ts=false):Lg.qxw N ts=zws N [] ts:=by
 unfold Lg.qxw zws;rw[if_neg (by rw[h];decide)];obtain⟨k,t,m,p,ks⟩:=N;simp[Tree.withKids,Tree.kids]
abbrev qq9 (T:List Tok)(deep:Int)(nm:Bs)(num at_:Int)(sl:Nat)(o:Bool)(ds:List D)(i:Nat)(fl p:Int):S:=
 ⟨54,put 0 (.bp 1000 0) (put 4 (.bp 4 0) (put 5 (.bp 5 0) (put sl (.d (.bool o)) nix))),put 1000 (rbx T i deep fl p) (put 4 ⟨qvp,100⟩ (put 5 ⟨[.d (.int .i64 1),.d (.st nm),.d (.int .i64 num),.d (.int .i64 at_),.os 19 5 ds.length],100⟩ nix)),put 19 (5,100,ds) nix⟩
def rtyp:Spec:=fun ys bx Kr Kp=>∃at_,refP (fun _=>True) (fun t=>.d (qzr t)) (Lg.typ at_) [.d (.int .i64 at_)] ys bx Kr Kp
abbrev trQ (T:List Tok)(deep a:Int)(Kr:LV->Bx->Ar1->Prop)(x:Lg.PR Tree):Prop:=refQ T deep a (fun _=>True) (fun t=>.d (qzr t)) Kr x
abbrev tfQ (T:List Tok)(deep:Int)(Kr:LV->Bx->Ar1->Prop)(c p:Int):Prop:=flQ T deep (fun _=>True) (fun t=>.d (qzr t)) Kr c p
inductive TypQ where
 |yes (ds:List D) (acc:List Tree) (i:Nat) (ts:List Tok)
 |no (ds:List D) (acc:List Tree) (i:Nat) (ts:List Tok)
 |bad (ds:List D) (acc:List Tree) (i:Nat) (c p:Int)
def typM:TypQ->Nat
 |.yes _ _ _ ts=>ts.length+1
 |_=>0
def typOk (T:List Tok)(deep a:Int)(Kr:LV->Bx->Ar1->Prop)(nm:Bs)(at_:Int)(s:Tree):TypQ->Prop
 |.yes ds acc i ts=>At T i ts/\qx7 ds (s::acc)/\acc.length+ts.length<=2097152/\trQ T deep a Kr (Lg.bnd (Lg.field ts) fun x ts'=>qj8 Lg.field (fieldK nm at_ s) (acc++[x]) ts')
 |.no ds acc i ts=>At T i ts/\qx7 ds (s::acc)/\acc.length+ts.length<=2097152/\trQ T deep a Kr (Lg.qxw (.node 1 nm 0 at_ (s::acc)) ts)
 |.bad ds acc i c p=>c≠0/\(∃ts,At T i ts)/\qx7 ds (s::acc)/\tfQ T deep Kr c p
abbrev TypT (T:List Tok)(deep a:Int)(Kr:LV->Bx->Ar1->Prop)(nm:Bs)(at_:Int)(s:Tree):={q:TypQ //typOk T deep a Kr nm at_ s q}
def typF (T:List Tok)(deep a:Int)(nm:Bs)(at_:Int):TypQ->S
 |.yes ds _ i _=>qq9 T deep nm 0 at_ 7 true ds i 0 a
 |.no ds _ i _=>qq9 T deep nm 0 at_ 7 false ds i 0 a
 |.bad ds _ i c p=>qq9 T deep nm 0 at_ 7 false ds i c p
def tywOk (T:List Tok)(deep a:Int)(Kr:LV->Bx->Ar1->Prop)(nm:Bs)(at_:Int)(fs:List Tree):TypQ->Prop
 |.yes ds gs i ts=>At T i ts/\qx7 ds (fs++gs)/\(fs++gs).length+ts.length<=2097153/\trQ T deep a Kr (Lg.bnd (Lg.fact ts) fun x ts'=>qj8 Lg.fact (zws (.node 1 nm 0 at_ fs)) (gs++[x]) ts')
 |.no ds gs i ts=>At T i ts/\qx7 ds (fs++gs)/\(fs++gs).length+ts.length<=2097153/\trQ T deep a Kr (zws (.node 1 nm 0 at_ fs) gs ts)
 |.bad ds gs i c p=>c≠0/\(∃ts,At T i ts)/\qx7 ds (fs++gs)/\tfQ T deep Kr c p
abbrev TywT (T:List Tok)(deep a:Int)(Kr:LV->Bx->Ar1->Prop)(nm:Bs)(at_:Int)(fs:List Tree):={q:TypQ //tywOk T deep a Kr nm at_ fs q}
def tywF (T:List Tok)(deep a:Int)(nm:Bs)(at_:Int):TypQ->S
 |.yes ds _ i _=>qq9 T deep nm 0 at_ 9 true ds i 0 a
 |.no ds _ i _=>qq9 T deep nm 0 at_ 9 false ds i 0 a
 |.bad ds _ i c p=>qq9 T deep nm 0 at_ 9 false ds i c p
theorem rtyp_OK:OK Tryz.prog 55 rtyp:=by
 refine fn_OK' qzu (E:=(EO 19)) (sp:=spL [(104,(refP (fun _=>True) (fun t=>.d (qx8 t)) Lg.name [])),(108,(refP (fun _=>True) (fun t=>.d (qzr t)) Lg.sort [])),(52,rhas),(109,(refP (fun _=>True) (fun t=>.d (qzr t)) Lg.field [])),(54,zq6),(110,(refP (fun t:Tree=>t.kids.length=2) (fun t=>.d (zja t)) Lg.fact []))]) qzt qzl (OKs.ok ⟨qjq,⟨rsort_OK,⟨qxp,⟨rfield_OK,⟨qx1,⟨rfact_OK,trivial⟩⟩⟩⟩⟩⟩) func55 rfl ntmps55 results55 call55 [1000] none ?_;rintro ys bx Kr Kp ⟨at_,T,i,ts,deep,fl,a,rfl,hb,hA,hK⟩
 refine⟨[(1000,rbx T i deep fl a)],rfl,⟨by decide,hb,trivial⟩,by simp,?_⟩
 simp only[go_sem]
 rcases hK with⟨rfl,hK⟩|⟨hf,hK⟩
 · unfold Lg.typ at hK;refine⟨T,i,ts,deep,0,a,rfl,rfl,hA,.inl ⟨rfl,qzf hK (fun p' c hc hE v i' ts' hb' hA'=>?_) (fun v ts1 i1 e hK hA1=>?_)⟩⟩
   · simp only[go_sem]
     (refine⟨T,i',ts',deep,c,p',rfl,rfl,hA',.inr ⟨hc,fun s hy_s=>?_⟩⟩;simp only[go_sem])
     (refine⟨T,i',ts',deep,c,p',_,rfl,rfl,hA',.inr ⟨hc,?_⟩⟩;simp only[go_sem])
     refine qzj (T:=Unit) (fun _=>qq9 T deep v.text v.num at_ 7 false [expD s] i' c p') (fun _=>0) ()
      (zsub (sP4 qza) (sP3 qza) (sP1 qza)) ?_
     rintro⟨⟩;dsimp only[qq9];simp only[go_sem]
     (refine⟨T,i',ts',deep,c,p',_,rfl,rfl,hA',.inr ⟨hc,?_⟩⟩;simp only[go_sem])
     refine qzj (T:=Unit) (fun _=>qq9 T deep v.text v.num at_ 9 false [expD s] i' c p') (fun _=>0) ()
      (zsub (sP4 qza) (sP3 qza) (sP1 qza)) ?_
     rintro⟨⟩;dsimp only[qq9];simp only[go_sem]
     (refine⟨_,T,i',ts',deep,c,p',rfl,rfl,hA',.inr ⟨hc,fun _ _=>?_⟩⟩;simp only[go_sem])
     exact⟨_,qzb (qzc (qzo (ts:=[s]) (.cons (qzk s) .nil))),hE (.node 1 v.text v.num at_ [s]) i' trivial ⟨ts',hA'⟩⟩
   · have hv:=qqm e;have hv2:=name_num e;obtain⟨k,t,m,p,ks⟩:=v;cases hv;cases hv2;simp only[go_sem];refine⟨T,i1,ts1,deep,0,a,rfl,rfl,hA1,.inl ⟨rfl,qzf hK (fun p' c hc hE s i' ts' hb' hA'=>?_) (fun s ts2 i2 e hK hA2=>?_)⟩⟩
     · simp only[go_sem]
       (refine⟨T,i',ts',deep,c,p',_,rfl,rfl,hA',.inr ⟨hc,?_⟩⟩;simp only[go_sem])
       refine qzj (T:=Unit) (fun _=>qq9 T deep t 0 at_ 7 false [expD s] i' c p') (fun _=>0) ()
        (zsub (sP4 qza) (sP3 qza) (sP1 qza)) ?_
       rintro⟨⟩;dsimp only[qq9];simp only[go_sem]
       (refine⟨T,i',ts',deep,c,p',_,rfl,rfl,hA',.inr ⟨hc,?_⟩⟩;simp only[go_sem])
       refine qzj (T:=Unit) (fun _=>qq9 T deep t 0 at_ 9 false [expD s] i' c p') (fun _=>0) ()
        (zsub (sP4 qza) (sP3 qza) (sP1 qza)) ?_
       rintro⟨⟩;dsimp only[qq9];simp only[go_sem]
       (refine⟨_,T,i',ts',deep,c,p',rfl,rfl,hA',.inr ⟨hc,fun _ _=>?_⟩⟩;simp only[go_sem])
       exact⟨_,qzb (qzc (qzo (ts:=[s]) (.cons (qzk s) .nil))),hE (.node 1 t 0 at_ [s]) i' trivial ⟨ts',hA'⟩⟩
     · simp only[go_sem];have b2:=hA2.2.1.2;have hS0:qx7 [expD s] (s::[]):=.cons (qzk s) .nil
       refine⟨T,i2,ts2,deep,0,a,Lg.sLcu,rfl,rfl,hA2,.inl ⟨rfl,fun h=>?_,fun h=>?_⟩⟩
       · rw[if_pos h,qwp]at hK;simp only[go_sem]
         refine qzj (T:=TypT T deep a Kr t at_ s) (fun q=>typF T deep a t at_ q.val) (fun q=>typM q.val) ⟨.yes [expD s] [] (i2+1) ts2.tail,hA2.isT h,hS0,by rw[List.length_tail];show 0+(ts2.length-1)<=2097152;omega,hK⟩
          (zsub (sP4 qza) (sP3 qza) (sP1 qza)) ?_
         rintro⟨q,hq⟩
         cases q with
         |yes ds acc i3 ts3=>
          obtain⟨hA3,hS,hn,hK⟩:=hq;dsimp only[typF,qq9];simp only[go_sem];have hl:=hS.len;rw[lB]at hl;refine⟨T,i3,ts3,deep,0,a,rfl,rfl,hA3,.inl ⟨rfl,qzf hK (fun p' c hc hE x i' ts' hb' hA'=>?_) (fun x ts4 i4 e hK hA4=>?_)⟩⟩
          · simp only[go_sem]
            refine⟨by omega,by omega,?_⟩
            (refine⟨T,i',ts',deep,c,p',_,rfl,rfl,hA',.inr ⟨hc,?_⟩⟩;simp only[go_sem])
            (refine⟨_,T,i',ts',deep,c,p',rfl,rfl,hA',.inr ⟨hc,fun _ _=>?_⟩⟩;simp only[go_sem])
            exact⟨⟨.bad (ds++[expD x]) (acc++[x]) i' c p',hc,⟨ts',hA'⟩,hS.snoc (qzk x),hE⟩,zsub (sP4 qza) (sP2 (qzd (by simp[put]) qza)) (sP1 qza),Nat.succ_pos _⟩
          · have h1:=Lg.field_eats _ _ _ e;simp only[go_sem]
            refine⟨by omega,by omega,?_⟩
            refine⟨T,i4,ts4,deep,0,a,Lg.sComma,rfl,rfl,hA4,.inl ⟨rfl,fun h=>?_,fun h=>?_⟩⟩
            · rw[qq7 Lg.field_eats h]at hK;simp only[go_sem]
              exact⟨⟨.yes (ds++[expD x]) (acc++[x]) (i4+1) ts4.tail,hA4.isT h,hS.snoc (qzk x),by rw[lC,List.length_singleton,List.length_tail];omega,hK⟩,zsub (sP4 qza) (sP2 (qzd (by simp[put]) qza)) (sP1 qza),by show ts4.tail.length+1<ts3.length+1;rw[List.length_tail];omega⟩
            · rw[qxz h]at hK;simp only[go_sem];refine⟨_,T,i4,ts4,deep,0,a,rfl,rfl,hA4,.inl ⟨rfl,qzf hK (fun p' c hc hE _ i' ts' hb' hA'=>?_) (fun _ ts5 i5 e hK hA5=>?_)⟩⟩
              ·simp only[go_sem];exact⟨⟨.bad (ds++[expD x]) (acc++[x]) i' c p',hc,⟨ts',hA'⟩,hS.snoc (qzk x),hE⟩,zsub (sP4 qza) (sP2 (qzd (by simp[put]) qza)) (sP1 qza),Nat.succ_pos _⟩
              · have h2:=Lg.qqn _ _ _ _ e;simp only[go_sem]
                exact⟨⟨.no (ds++[expD x]) (acc++[x]) i5 ts5,hA5,hS.snoc (qzk x),by rw[lC,List.length_singleton];omega,hK⟩,zsub (sP4 qza) (sP2 (qzd (by simp[put]) qza)) (sP1 qza),Nat.succ_pos _⟩
         |no ds acc i3 ts3=>
          obtain⟨hA3,hS,hn,hK⟩:=hq;dsimp only[typF,qq9];simp only[go_sem]
          refine⟨T,i3,ts3,deep,0,a,Lg.sWhere,rfl,rfl,hA3,.inl ⟨rfl,fun h=>?_,fun h=>?_⟩⟩
          · rw[zqw h]at hK;simp only[go_sem]
            refine qzj (T:=TywT T deep a Kr t at_ (s::acc)) (fun q=>tywF T deep a t at_ q.val) (fun q=>typM q.val) ⟨.yes ds [] (i3+1) ts3.tail,hA3.isT h,by rw[List.append_nil];exact hS,by rw[List.append_nil,lB,List.length_tail];omega,hK⟩
             (zsub (sP4 qza) (sP3 qza) (sP1 qza)) ?_
            rintro⟨q,hq⟩
            cases q with
            |yes ds gs i3 ts3=>
             obtain⟨hA3,hS,hn,hK⟩:=hq;dsimp only[tywF,qq9];simp only[go_sem];have hl:=hS.len;refine⟨T,i3,ts3,deep,0,a,rfl,rfl,hA3,.inl ⟨rfl,qzf hK (fun p' c hc hE x i' ts' hb' hA'=>?_) (fun x ts4 i4 e hK hA4=>?_)⟩⟩
             · simp only[go_sem]
               refine⟨by omega,by omega,?_⟩
               (refine⟨T,i',ts',deep,c,p',_,rfl,rfl,hA',.inr ⟨hc,?_⟩⟩;simp only[go_sem])
               exact⟨⟨.bad (ds++[zja x]) (gs++[x]) i' c p',hc,⟨ts',hA'⟩,by rw[<-List.append_assoc];exact hS.snoc (zqn x),hE⟩,zsub (sP4 qza) (sP2 (qzd (by simp[put]) qza)) (sP1 qza),Nat.succ_pos _⟩
             · have h1:=Lg.fact_eats _ _ _ e;simp only[go_sem]
               refine⟨by omega,by omega,?_⟩
               refine⟨T,i4,ts4,deep,0,a,Lg.sComma,rfl,rfl,hA4,.inl ⟨rfl,fun h=>?_,fun h=>?_⟩⟩
               · rw[qq7 Lg.fact_eats h]at hK;simp only[go_sem]
                 exact⟨⟨.yes (ds++[zja x]) (gs++[x]) (i4+1) ts4.tail,hA4.isT h,by rw[<-List.append_assoc];exact hS.snoc (zqn x),by rw[<-List.append_assoc,lC,List.length_singleton,List.length_tail];omega,hK⟩,zsub (sP4 qza) (sP2 (qzd (by simp[put]) qza)) (sP1 qza),by show ts4.tail.length+1<ts3.length+1;rw[List.length_tail];omega⟩
               · rw[qxz h]at hK;simp only[go_sem]
                 exact⟨⟨.no (ds++[zja x]) (gs++[x]) i4 ts4,hA4,by rw[<-List.append_assoc];exact hS.snoc (zqn x),by rw[<-List.append_assoc,lC,List.length_singleton];omega,hK⟩,zsub (sP4 qza) (sP2 (qzd (by simp[put]) qza)) (sP1 qza),Nat.succ_pos _⟩
            |no ds gs i3 ts3=>
             obtain⟨hA3,hS,hn,hK⟩:=hq;dsimp only[tywF,qq9];simp only[go_sem];refine⟨_,T,i3,ts3,deep,0,a,rfl,rfl,hA3,.inl ⟨rfl,qzf hK (fun p' c hc hE _ i' ts' hb' hA'=>?_) (fun _ ts4 i4 e hK hA4=>?_)⟩⟩
             ·simp only[go_sem];exact⟨_,qzb (qzc (qzo hS)),hE (.node 1 t 0 at_ (s::acc++gs)) i' trivial ⟨ts',hA'⟩⟩
             ·simp only[go_sem];exact⟨_,qzb (qzc (qzo hS)),hK i4 hA4⟩
            |bad ds gs i3 c p'=>
             obtain⟨hc,⟨ts',hA'⟩,hS,hE⟩:=hq;dsimp only[tywF,qq9];simp only[go_sem]
             refine⟨_,T,i3,ts',deep,c,p',rfl,rfl,hA',.inr ⟨hc,fun _ _=>?_⟩⟩
             simp only[go_sem];exact⟨_,qzb (qzc (qzo hS)),hE (.node 1 t 0 at_ (s::acc++gs)) i3 trivial ⟨ts',hA'⟩⟩
          · rw[zxm h]at hK;simp only[go_sem]
            refine qzj (T:=Unit) (fun _=>qq9 T deep t 0 at_ 9 false ds i3 0 a) (fun _=>0) ()
             (zsub (sP4 qza) (sP3 qza) (sP1 qza)) ?_
            rintro⟨⟩;dsimp only[qq9];simp only[go_sem];refine⟨_,T,i3,ts3,deep,0,a,rfl,rfl,hA3,.inl ⟨rfl,qzf hK (fun p' c hc hE _ i' ts' hb' hA'=>?_) (fun _ ts4 i4 e hK hA4=>?_)⟩⟩
            ·simp only[go_sem];exact⟨_,qzb (qzc (qzo hS)),hE (.node 1 t 0 at_ (s::acc)) i' trivial ⟨ts',hA'⟩⟩
            · simp only[go_sem];refine⟨_,qzb (qzc (qzo hS)),?_⟩;have:=hK i4 hA4
              rw[show Tree.withKids (Tree.kids (.node 1 t 0 at_ (s::acc))++[]) (.node 1 t 0 at_ (s::acc))=.node 1 t 0 at_ (s::acc) by simp[Tree.withKids,Tree.kids]]at this
              exact this
         |bad ds acc i3 c p'=>
          obtain⟨hc,⟨ts',hA'⟩,hS,hE⟩:=hq;dsimp only[typF,qq9];simp only[go_sem];refine⟨T,i3,ts',deep,c,p',_,rfl,rfl,hA',.inr ⟨hc,?_⟩⟩;simp only[go_sem]
          refine qzj (T:=Unit) (fun _=>qq9 T deep t 0 at_ 9 false ds i3 c p') (fun _=>0) ()
           (zsub (sP4 qza) (sP3 qza) (sP1 qza)) ?_
          rintro⟨⟩;dsimp only[qq9];simp only[go_sem]
          refine⟨_,T,i3,ts',deep,c,p',rfl,rfl,hA',.inr ⟨hc,fun _ _=>?_⟩⟩
          simp only[go_sem];exact⟨_,qzb (qzc (qzo hS)),hE (.node 1 t 0 at_ (s::acc)) i3 trivial ⟨ts',hA'⟩⟩
       · rw[if_neg (qzg h)]at hK;simp only[go_sem]
         refine qzj (T:=TypT T deep a Kr t at_ s) (fun q=>typF T deep a t at_ q.val) (fun q=>typM q.val) ⟨.no [expD s] [] i2 ts2,hA2,hS0,by show 0+ts2.length<=2097152;omega,hK⟩
          (zsub (sP4 qza) (sP3 qza) (sP1 qza)) ?_
         rintro⟨q,hq⟩
         cases q with
         |yes ds acc i3 ts3=>
          obtain⟨hA3,hS,hn,hK⟩:=hq;dsimp only[typF,qq9];simp only[go_sem];have hl:=hS.len;rw[lB]at hl;refine⟨T,i3,ts3,deep,0,a,rfl,rfl,hA3,.inl ⟨rfl,qzf hK (fun p' c hc hE x i' ts' hb' hA'=>?_) (fun x ts4 i4 e hK hA4=>?_)⟩⟩
          · simp only[go_sem]
            refine⟨by omega,by omega,?_⟩
            (refine⟨T,i',ts',deep,c,p',_,rfl,rfl,hA',.inr ⟨hc,?_⟩⟩;simp only[go_sem])
            (refine⟨_,T,i',ts',deep,c,p',rfl,rfl,hA',.inr ⟨hc,fun _ _=>?_⟩⟩;simp only[go_sem])
            exact⟨⟨.bad (ds++[expD x]) (acc++[x]) i' c p',hc,⟨ts',hA'⟩,hS.snoc (qzk x),hE⟩,zsub (sP4 qza) (sP2 (qzd (by simp[put]) qza)) (sP1 qza),Nat.succ_pos _⟩
          · have h1:=Lg.field_eats _ _ _ e;simp only[go_sem]
            refine⟨by omega,by omega,?_⟩
            refine⟨T,i4,ts4,deep,0,a,Lg.sComma,rfl,rfl,hA4,.inl ⟨rfl,fun h=>?_,fun h=>?_⟩⟩
            · rw[qq7 Lg.field_eats h]at hK;simp only[go_sem]
              exact⟨⟨.yes (ds++[expD x]) (acc++[x]) (i4+1) ts4.tail,hA4.isT h,hS.snoc (qzk x),by rw[lC,List.length_singleton,List.length_tail];omega,hK⟩,zsub (sP4 qza) (sP2 (qzd (by simp[put]) qza)) (sP1 qza),by show ts4.tail.length+1<ts3.length+1;rw[List.length_tail];omega⟩
            · rw[qxz h]at hK;simp only[go_sem];refine⟨_,T,i4,ts4,deep,0,a,rfl,rfl,hA4,.inl ⟨rfl,qzf hK (fun p' c hc hE _ i' ts' hb' hA'=>?_) (fun _ ts5 i5 e hK hA5=>?_)⟩⟩
              ·simp only[go_sem];exact⟨⟨.bad (ds++[expD x]) (acc++[x]) i' c p',hc,⟨ts',hA'⟩,hS.snoc (qzk x),hE⟩,zsub (sP4 qza) (sP2 (qzd (by simp[put]) qza)) (sP1 qza),Nat.succ_pos _⟩
              · have h2:=Lg.qqn _ _ _ _ e;simp only[go_sem]
                exact⟨⟨.no (ds++[expD x]) (acc++[x]) i5 ts5,hA5,hS.snoc (qzk x),by rw[lC,List.length_singleton];omega,hK⟩,zsub (sP4 qza) (sP2 (qzd (by simp[put]) qza)) (sP1 qza),Nat.succ_pos _⟩
         |no ds acc i3 ts3=>
          obtain⟨hA3,hS,hn,hK⟩:=hq;dsimp only[typF,qq9];simp only[go_sem]
          refine⟨T,i3,ts3,deep,0,a,Lg.sWhere,rfl,rfl,hA3,.inl ⟨rfl,fun h=>?_,fun h=>?_⟩⟩
          · rw[zqw h]at hK;simp only[go_sem]
            refine qzj (T:=TywT T deep a Kr t at_ (s::acc)) (fun q=>tywF T deep a t at_ q.val) (fun q=>typM q.val) ⟨.yes ds [] (i3+1) ts3.tail,hA3.isT h,by rw[List.append_nil];exact hS,by rw[List.append_nil,lB,List.length_tail];omega,hK⟩
             (zsub (sP4 qza) (sP3 qza) (sP1 qza)) ?_
            rintro⟨q,hq⟩
            cases q with
            |yes ds gs i3 ts3=>
             obtain⟨hA3,hS,hn,hK⟩:=hq;dsimp only[tywF,qq9];simp only[go_sem];have hl:=hS.len;refine⟨T,i3,ts3,deep,0,a,rfl,rfl,hA3,.inl ⟨rfl,qzf hK (fun p' c hc hE x i' ts' hb' hA'=>?_) (fun x ts4 i4 e hK hA4=>?_)⟩⟩
             · simp only[go_sem]
               refine⟨by omega,by omega,?_⟩
               (refine⟨T,i',ts',deep,c,p',_,rfl,rfl,hA',.inr ⟨hc,?_⟩⟩;simp only[go_sem])
               exact⟨⟨.bad (ds++[zja x]) (gs++[x]) i' c p',hc,⟨ts',hA'⟩,by rw[<-List.append_assoc];exact hS.snoc (zqn x),hE⟩,zsub (sP4 qza) (sP2 (qzd (by simp[put]) qza)) (sP1 qza),Nat.succ_pos _⟩
             · have h1:=Lg.fact_eats _ _ _ e;simp only[go_sem]
               refine⟨by omega,by omega,?_⟩
               refine⟨T,i4,ts4,deep,0,a,Lg.sComma,rfl,rfl,hA4,.inl ⟨rfl,fun h=>?_,fun h=>?_⟩⟩
               · rw[qq7 Lg.fact_eats h]at hK;simp only[go_sem]
                 exact⟨⟨.yes (ds++[zja x]) (gs++[x]) (i4+1) ts4.tail,hA4.isT h,by rw[<-List.append_assoc];exact hS.snoc (zqn x),by rw[<-List.append_assoc,lC,List.length_singleton,List.length_tail];omega,hK⟩,zsub (sP4 qza) (sP2 (qzd (by simp[put]) qza)) (sP1 qza),by show ts4.tail.length+1<ts3.length+1;rw[List.length_tail];omega⟩
               · rw[qxz h]at hK;simp only[go_sem]
                 exact⟨⟨.no (ds++[zja x]) (gs++[x]) i4 ts4,hA4,by rw[<-List.append_assoc];exact hS.snoc (zqn x),by rw[<-List.append_assoc,lC,List.length_singleton];omega,hK⟩,zsub (sP4 qza) (sP2 (qzd (by simp[put]) qza)) (sP1 qza),Nat.succ_pos _⟩
            |no ds gs i3 ts3=>
             obtain⟨hA3,hS,hn,hK⟩:=hq;dsimp only[tywF,qq9];simp only[go_sem];refine⟨_,T,i3,ts3,deep,0,a,rfl,rfl,hA3,.inl ⟨rfl,qzf hK (fun p' c hc hE _ i' ts' hb' hA'=>?_) (fun _ ts4 i4 e hK hA4=>?_)⟩⟩
             ·simp only[go_sem];exact⟨_,qzb (qzc (qzo hS)),hE (.node 1 t 0 at_ (s::acc++gs)) i' trivial ⟨ts',hA'⟩⟩
             ·simp only[go_sem];exact⟨_,qzb (qzc (qzo hS)),hK i4 hA4⟩
            |bad ds gs i3 c p'=>
             obtain⟨hc,⟨ts',hA'⟩,hS,hE⟩:=hq;dsimp only[tywF,qq9];simp only[go_sem]
             refine⟨_,T,i3,ts',deep,c,p',rfl,rfl,hA',.inr ⟨hc,fun _ _=>?_⟩⟩
             simp only[go_sem];exact⟨_,qzb (qzc (qzo hS)),hE (.node 1 t 0 at_ (s::acc++gs)) i3 trivial ⟨ts',hA'⟩⟩
          · rw[zxm h]at hK;simp only[go_sem]
            refine qzj (T:=Unit) (fun _=>qq9 T deep t 0 at_ 9 false ds i3 0 a) (fun _=>0) ()
             (zsub (sP4 qza) (sP3 qza) (sP1 qza)) ?_
            rintro⟨⟩;dsimp only[qq9];simp only[go_sem];refine⟨_,T,i3,ts3,deep,0,a,rfl,rfl,hA3,.inl ⟨rfl,qzf hK (fun p' c hc hE _ i' ts' hb' hA'=>?_) (fun _ ts4 i4 e hK hA4=>?_)⟩⟩
            ·simp only[go_sem];exact⟨_,qzb (qzc (qzo hS)),hE (.node 1 t 0 at_ (s::acc)) i' trivial ⟨ts',hA'⟩⟩
            · simp only[go_sem];refine⟨_,qzb (qzc (qzo hS)),?_⟩;have:=hK i4 hA4
              rw[show Tree.withKids (Tree.kids (.node 1 t 0 at_ (s::acc))++[]) (.node 1 t 0 at_ (s::acc))=.node 1 t 0 at_ (s::acc) by simp[Tree.withKids,Tree.kids]]at this
              exact this
         |bad ds acc i3 c p'=>
          obtain⟨hc,⟨ts',hA'⟩,hS,hE⟩:=hq;dsimp only[typF,qq9];simp only[go_sem];refine⟨T,i3,ts',deep,c,p',_,rfl,rfl,hA',.inr ⟨hc,?_⟩⟩;simp only[go_sem]
          refine qzj (T:=Unit) (fun _=>qq9 T deep t 0 at_ 9 false ds i3 c p') (fun _=>0) ()
           (zsub (sP4 qza) (sP3 qza) (sP1 qza)) ?_
          rintro⟨⟩;dsimp only[qq9];simp only[go_sem]
          refine⟨_,T,i3,ts',deep,c,p',rfl,rfl,hA',.inr ⟨hc,fun _ _=>?_⟩⟩
          simp only[go_sem];exact⟨_,qzb (qzc (qzo hS)),hE (.node 1 t 0 at_ (s::acc)) i3 trivial ⟨ts',hA'⟩⟩
 · (refine⟨T,i,ts,deep,fl,a,rfl,rfl,hA,.inr ⟨hf,fun v hy_v=>?_⟩⟩;simp only[go_sem])
   (refine⟨T,i,ts,deep,fl,a,rfl,rfl,hA,.inr ⟨hf,fun s hy_s=>?_⟩⟩;simp only[go_sem])
   (refine⟨T,i,ts,deep,fl,a,_,rfl,rfl,hA,.inr ⟨hf,?_⟩⟩;simp only[go_sem])
   refine qzj (T:=Unit) (fun _=>qq9 T deep v.text v.num at_ 7 false [expD s] i fl a) (fun _=>0) ()
    (zsub (sP4 qza) (sP3 qza) (sP1 qza)) ?_
   rintro⟨⟩;dsimp only[qq9];simp only[go_sem]
   (refine⟨T,i,ts,deep,fl,a,_,rfl,rfl,hA,.inr ⟨hf,?_⟩⟩;simp only[go_sem])
   refine qzj (T:=Unit) (fun _=>qq9 T deep v.text v.num at_ 9 false [expD s] i fl a) (fun _=>0) ()
    (zsub (sP4 qza) (sP3 qza) (sP1 qza)) ?_
   rintro⟨⟩;dsimp only[qq9];simp only[go_sem]
   (refine⟨_,T,i,ts,deep,fl,a,rfl,rfl,hA,.inr ⟨hf,fun _ _=>?_⟩⟩;simp only[go_sem])
   exact⟨_,qzb (qzc (qzo (ts:=[s]) (.cons (qzk s) .nil))),hK (.node 1 v.text v.num at_ [s]) trivial⟩
def rkLV (d:Nat)(xs:List Tree):LV:=match xs with
 |[]=>.d (.imm (.slice none 0 0))
 |x::l=>.os d 5 (x::l).length
def rkAr (d:Nat)(xs:List Tree):Ar:=match xs with
 |[]=>nix
 |x::l=>put d (5,100,qze (x::l)) nix
@[go_sem]theorem rkLV_nil (d:Nat):rkLV d []=.d (.imm (.slice none 0 0)):=(rfl)
@[go_sem]theorem rkLV_cons (d:Nat)(x:Tree)(l:List Tree):rkLV d (x::l)=.os d 5 (l.length+1):=(rfl)
@[go_sem]theorem rkAr_nil (d:Nat):rkAr d []=nix:=(rfl)
@[go_sem]theorem rkAr_cons (d:Nat)(x:Tree)(l:List Tree):rkAr d (x::l)=put d (5,100,qze (x::l)) nix:=(rfl)
def rsizeS (n:Nat):Spec:=fun ys bx Kr Kp=>∃x t,ys=[.d x]/\D.le x (qzr t)/\Lg.size t<=n/\Kr (.d (.int .i64 (Lg.size t))) nix none
theorem rsize_step (n:Nat)(hn:n<9223372036854775807)(ih:OK Tryz.prog 56 (rsizeS n)):OK Tryz.prog 56 (rsizeS (n+1)):=by
 refine fn_OK' qzu (E:=EV) (sp:=spL [(56,(rsizeS n))]) qzt qzl (OKs.ok ⟨ih,trivial⟩) func56 rfl ntmps56 results56 call56 [] none ?_;rintro ys bx Kr Kp ⟨x,t,rfl,hle,hsz,hK⟩
 refine⟨[],rfl,trivial,by simp,?_⟩
 obtain⟨y,rfl,hy⟩:=qk9 hle;have ho:=one_sl hy;rw[zk9]at hsz hK;obtain⟨k,s,m,p,ks⟩:=t;simp only[Tree.kind,Tree.text,Tree.num,Tree.pos,Tree.kids]at*;clear hle
 rcases zx4 hy with⟨rfl,he⟩|⟨ys,f',rfl,hle⟩
 · have h0:ks=[]:=by cases ks with
    |nil=>rfl
    |cons k ks=>simp[qze]at he
   subst h0;simp only[go_sem]
   refine qzj (T:=Unit) (fun _=>⟨23,put 1 (.bp 1 0) (put 3 (.d (.int .i64 1)) (put 4 (.d (.int .i64 0)) nix)),put 1 ⟨[.d (.int .i64 k),.d (.st s),.d (.int .i64 m),.d (.int .i64 p),.d (.imm (.slice none 0 0))],100⟩ nix,nix⟩) (fun _=>0) () ⟨rfl,sP3 qza,sP1 qza,qza⟩ ?_
   rintro⟨⟩;simp only[go_sem]
   exact⟨fun h=>absurd h (by simp),fun _=>⟨_,qzb (.rfl _),hK⟩⟩
 · have hlen:ys.length=ks.length:=by rw[hle.length,qzn]
   simp only[hlen,go_sem]
   refine qzj (T:={i:Nat //i<=ks.length}) (fun i=>⟨23,put 1 (.bp 1 0) (put 3 (.d (.int .i64 ((1+Lg.qvj (ks.take i.1):Nat):Int))) (put 4 (.d (.int .i64 i.1)) nix)),put 1 ⟨[.d (.int .i64 k),.d (.st s),.d (.int .i64 m),.d (.int .i64 p),.d (.sl 5 ys f')],100⟩ nix,nix⟩) (fun i=>ks.length-i.1) ⟨0,Nat.zero_le _⟩
    ⟨rfl,sP1 (qzd (by simp[put,Lg.qvj]) (sP1 qza)),sP1 qza,qza⟩ ?_
   rintro⟨i,hi⟩;have hsi:=zxb ks i;have hls:=qj2 ks;simp only[hlen,go_sem]
   refine⟨fun h=>?_,fun h=>?_⟩
   · have hlt:i<ks.length:=by have:=lF h;omega
     obtain⟨y,hy1,hy2⟩:=les_get hle hlt;have hst:=zj7 ks hlt;have hs2:=zxb ks (i+1);obtain⟨y5,rfl,hy5⟩:=qk9 hy2;have ho:=one_sl hy5
     refine⟨by omega,by omega,?_⟩
     rw[lA,hy1];simp only[ho,go_sem]
     refine⟨_,ks[i],rfl,hy2,by omega,?_⟩
     simp only[go_sem]
     refine⟨⟨by omega,by omega⟩,⟨by omega,by omega⟩,⟨i+1,hlt⟩,⟨rfl,sP1 (qzd ?_ (sP1 qza)),sP1 qza,qza⟩,?_⟩
     · show some (LV.d (.int .i64 _))=some (LV.d (.int .i64 _))
       rw[hst];congr 3;omega
     · show ks.length-(i+1)<ks.length-i
       omega
   · have e:i=ks.length:=by have:=lG h;omega
     subst e;rw[List.take_length];exact⟨_,qzb (.rfl _),hK⟩
theorem rsize_OK:∀n:Nat,n<=9223372036854775807->OK Tryz.prog 56 (rsizeS n)
 |0,_=>{enters:=call56,calls:=fun ys bx Kr Kp ⟨_,t,_,_,h,_⟩=>by have:=zk8 t;omega}
 |n+1,h=>rsize_step n (by omega) (rsize_OK n (by omega))
theorem len0 {ks ls:List Tree}(h:ls=[])(hl:ks.length=ls.length):ks=[]:=by subst h;exact List.eq_nil_of_length_eq_zero hl
def itQ (Kr:LV->Bx->Ar1->Prop)(acc:List Tree):Lg.PR (List Tree)->Prop
 |.ok (xs,_)=>outT Kr (acc++xs)
 |.error (p,c)=>c≠0->outE Kr p c
theorem qva {α:Type}{T:List Tok}{a:Int}{Kr:LV->Bx->Ar1->Prop}{acc:List Tree}{bad':α->Prop}{res':α->LV}{Kr':LV->Bx->Ar1->Prop}{x:Lg.PR α}{k:α->List Tok->Lg.PR (List Tree)}(hK:itQ Kr acc (Lg.bnd x k))
  (herr:∀p c,c≠0->outE Kr p c->∀y i ts',bad' y->At T i ts'->Kr' (res' y) (put 1000 (rbx T i 0 c p) nix) none)
  (hok:∀v ts' i,x=.ok (v,ts')->itQ Kr acc (k v ts')->At T i ts'->Kr' (res' v) (put 1000 (rbx T i 0 0 a) nix) none):refQ T 0 a bad' res' Kr' x:=by
 cases x with
 |error q=>exact fun hc y i hb ⟨ts',hA⟩=>herr q.1 q.2 hc (hK hc) y i ts' hb hA
 |ok q=>exact fun i hA=>hok q.1 q.2 i rfl hK hA
theorem qwq {Kr:LV->Bx->Ar1->Prop}{acc:List Tree}{x:Tree}{r:Lg.PR (List Tree)}(h:itQ Kr acc (Lg.bnd r fun xs ts''=>.ok (x::xs,ts''))):itQ Kr (acc++[x]) r:=by
 cases r with
 |error q=>exact h
 |ok q=>
  show outT Kr (acc++[x]++q.1)
  rw[List.append_assoc];exact h
theorem zqk {ts:List Tok}(h:(Lg.hd ts).kind≠0):Lg.zx6 ts=Lg.bnd (Lg.item ts) fun x ts'=>Lg.bnd (Lg.zx6 ts') fun xs ts''=>.ok (x::xs,ts''):=by
 rw[Lg.zx6,if_neg h]
 cases h1:Lg.item ts with
 |error q=>rfl
 |ok q=>
  obtain⟨x,ts'⟩:=q;have h2:=Lg.item_eats _ _ _ h1
  show(if ts'.length<ts.length then _ else _)=_
  rw[if_pos h2];rfl
abbrev itSt (T:List Tok)(d:Nat)(ds:List D)(i:Nat)(fl p:Int):S:=
 ⟨108,put 2 (.bp 2 0) (put 8 (.bp 28 0) (put 9 (.bp 9 0) nix)),put 28 (rbx T i 0 fl p) (put 2 ⟨qvp,100⟩ (put 9 ⟨[.d (.int .i64 0),.d (.st []),.d (.int .i64 0),.d (.int .i64 0),bkLV d ds],100⟩ nix)),bkAr d ds⟩
inductive ItQ where
 |go (d:Nat) (ds:List D) (acc:List Tree) (i:Nat) (ts:List Tok)
 |bad (d:Nat) (ds:List D) (acc:List Tree) (i:Nat) (c p:Int)
def itM:ItQ->Nat
 |.go _ _ _ _ ts=>ts.length+1
 |.bad _ _ _ _ _ _=>0
def itOk (T:List Tok)(Kr:LV->Bx->Ar1->Prop):ItQ->Prop
 |.go d ds acc i ts=>(d=70\/d=86)/\At T i ts/\qx7 ds acc/\Lg.qvj acc+3*ts.length<=6291456/\itQ Kr acc (Lg.zx6 ts)
 |.bad d ds acc i c p=>(d=70\/d=86)/\c≠0/\(∃ts,At T i ts)/\qx7 ds acc/\acc.length<=6291457/\outE Kr p c
def itF (T:List Tok):ItQ->S
 |.go d ds _ i _=>itSt T d ds i 0 0
 |.bad d ds _ i c p=>itSt T d ds i c p
theorem rparse_OK:OK Tryz.prog 23 zke:=by
 refine fn_OK' qzu (E:=EV) (sp:=spL [(51,toksS),(52,rhas),(53,rfn),(54,zq6),(55,rtyp),(56,(rsizeS 9223372036854775807))]) qzt qzl (OKs.ok ⟨rtoks_OK,⟨qxp,⟨rfn_OK,⟨qx1,⟨rtyp_OK,⟨(rsize_OK 9223372036854775807 (by decide)),trivial⟩⟩⟩⟩⟩⟩) func23 rfl ntmps23 results23 call23 [] none ?_;rintro ys bx Kr Kp ⟨l,rfl,hK⟩
 refine⟨[],rfl,trivial,by simp,?_⟩
 simp only[go_sem];refine⟨l,rfl,?_⟩;unfold Lg.zjy at hK
 cases htk:Lg.toks l with
 |error q=>
  obtain⟨p,c⟩:=q;rw[htk]at hK;intro hc
  have hc':(c != 0)=true:=by simpa using hc
  simp only[hc',go_sem];exact⟨_,.cons (qzc qqp) (.cons (.rfl _) (.cons (.rfl _) .nil)),hK⟩
 |ok T=>
  rw[htk]at hK;intro hg;have hT:At T 0 T:=⟨rfl,hg,hg.2,(toks_key htk).1⟩
  have hK2:itQ Kr [] (Lg.zx6 T):=by
   have hK':(match Lg.qv2 T with|.ok t=>Kr (.tup [.d (qzr t),.d (.int .i64 0),.d (.int .i64 0)]) nix none|.error (a,c)=>outE Kr a c):=hK
   unfold Lg.qv2 at hK'
   cases hit:Lg.zx6 T with
   |error p=>obtain⟨a,c⟩:=p;rw[hit]at hK';exact fun _=>hK'
   |ok p=>
    obtain⟨xs,ts'⟩:=p;rw[hit]at hK'
    show outT Kr xs
    unfold outT;simp only at hK';split
    ·rename_i h;rw[if_pos h]at hK';exact hK'
    ·rename_i h;rw[if_neg h]at hK';exact hK'
  clear hK;simp only[go_sem]
  refine qzj (T:={q:ItQ //itOk T Kr q}) (fun q=>itF T q.val) (fun q=>itM q.val) ⟨.go 70 [] [] 0 T,.inl rfl,hT,.nil,by have:=hg.2;show 0+3*T.length<=6291456;omega,hK2⟩
   (zsub (sP3 qza) (sP3 qza) qza) ?_
  rintro⟨q,hq⟩
  cases q with
  |go dd ds acc i3 ts3=>
   obtain⟨hd,hA3,hS,hn,hK⟩:=hq
   cases ds with
   |nil=>
    rcases hd with rfl|rfl
    all_goals
     dsimp only[itF,itSt,bkLV,bkAr];have hl:=hS.len;have hz:=qj2 acc;simp only[rbx,go_sem];refine qz5 ?_;simp only[rbx,lE,lA,hA3.i0,hA3.i1,hA3.get,tokD,go_sem]
     cases hk0:(Lg.hd ts3).kind==0 with
     |true=>
      rw[Lg.zx6,if_pos (eq_of_beq hk0)]at hK
      have hk1:((Lg.hd ts3).kind != 0)=false:=by simp[bne,hk0]
      simp only[hk1,rbx,go_sem]
      have hK2:outT Kr acc:=by have this:outT Kr (acc++[]):=hK;rw[List.append_nil]at this;exact this
      unfold outT at hK2
      refine⟨_,.node 0 [] 0 0 acc,rfl,qzc (by cases acc with|nil=>exact .nil _ _|cons y l=>cases hS),by rw[Lg.qz2];omega,?_⟩
      simp only[go_sem]
      refine⟨fun h=>?_,fun h=>?_⟩
      ·rw[if_pos (by have:=lF h;omega)]at hK2;exact⟨_,.cons (qzc qqp) (.cons (.rfl _) (.cons (.rfl _) .nil)),hK2⟩
      · rw[if_neg (by have:=lG h;omega)]at hK2
        exact⟨_,.cons (qzc (by cases acc with|nil=>exact .nil _ _|cons y l=>cases hS)) (.cons (.rfl _) (.cons (.rfl _) .nil)),hK2⟩
     |false=>
      have hk1:((Lg.hd ts3).kind != 0)=true:=by simp[bne,hk0]
      rw[zqk (by simpa using hk0)]at hK;simp only[hk1,rbx,go_sem];refine qz5 ?_;simp only[rbx,lE,lA,hA3.i0,hA3.i1,hA3.get,tokD,go_sem]
      refine⟨T,i3,ts3,0,0,0,Lg.sFn,rfl,rfl,hA3,.inl ⟨rfl,fun h=>?_,fun h=>?_⟩⟩
      · have hit:Lg.item ts3=Lg.fn (Lg.hd ts3).pos ts3.tail:=by unfold Lg.item;rw[if_pos h]
        simp only[go_sem];refine⟨(Lg.hd ts3).pos,T,i3+1,ts3.tail,0,rfl,rfl,hA3.isT h,?_⟩;rw[<-hit];refine qva hK (fun p' c hc hE x i' ts' hb' hA'=>?_) (fun x ts4 i4 e hK hA4=>?_)
        · simp only[go_sem]
          exact⟨⟨.bad 70 ([]++[exD x]) (acc++[x]) i' c p',Or.inl rfl,hc,⟨ts',hA'⟩,hS.snoc (qzk x),by rw[lC,List.length_singleton];omega,hE⟩,zsub (sP3 qza) (sP3 qza) (sP1 qza),Nat.succ_pos _⟩
        · have h1:=Lg.item_eats _ _ _ e;have h2:=Lg.item_pay _ _ _ e;simp only[go_sem]
          exact⟨⟨.go 70 ([]++[exD x]) (acc++[x]) i4 ts4,Or.inl rfl,hA4,hS.snoc (qzk x),by rw[qqt];omega,qwq hK⟩,zsub (sP3 qza) (sP3 qza) (sP1 qza),by show ts4.length+1<ts3.length+1;omega⟩
      · have hit:Lg.item ts3=Lg.bnd (Lg.must Lg.sType ts3) fun _ ts'=>Lg.typ (Lg.hd ts3).pos ts':=by unfold Lg.item;rw[if_neg (qzg h)]
        have hit2:∀x ts4,Lg.item ts3=.ok (x,ts4)->ts4.length<ts3.length/\Lg.size x+3*ts4.length<=3*ts3.length:=fun x ts4 e=>⟨Lg.item_eats _ _ _ e,Lg.item_pay _ _ _ e⟩
        rw[hit]at hit2;rw[hit,bnd3]at hK;simp only[go_sem];refine⟨_,T,i3,ts3,0,0,0,rfl,rfl,hA3,.inl ⟨rfl,qva hK (fun p' c hc hE _ i' ts' hb' hA'=>?_) (fun _ ts5 i5 e5 hK hA5=>?_)⟩⟩
        · have hc':(c==0)=false:=by simpa using hc
          simp only[rbx,hc',go_sem]
          exact⟨⟨.bad 70 [] acc i' c p',Or.inl rfl,hc,⟨ts',hA'⟩,hS,by omega,hE⟩,zsub (sP3 qza) (sP3 qza) qza,Nat.succ_pos _⟩
        · simp only[rbx,go_sem];refine⟨(Lg.hd ts3).pos,T,i5,ts5,0,0,0,rfl,rfl,hA5,.inl ⟨rfl,qva hK (fun p' c hc hE x i' ts' hb' hA'=>?_) (fun x ts4 i4 e hK hA4=>?_)⟩⟩
          · simp only[go_sem]
            exact⟨⟨.bad 86 ([]++[exD x]) (acc++[x]) i' c p',Or.inr rfl,hc,⟨ts',hA'⟩,hS.snoc (qzk x),by rw[lC,List.length_singleton];omega,hE⟩,zsub (sP3 qza) (sP3 qza) (sP1 qza),Nat.succ_pos _⟩
          · obtain⟨h1,h2⟩:=hit2 x ts4 (by rw[show Lg.must Lg.sType ts3=_ from e5];exact e);simp only[go_sem]
            exact⟨⟨.go 86 ([]++[exD x]) (acc++[x]) i4 ts4,Or.inr rfl,hA4,hS.snoc (qzk x),by rw[qqt];omega,qwq hK⟩,zsub (sP3 qza) (sP3 qza) (sP1 qza),by show ts4.length+1<ts3.length+1;omega⟩
   |cons d ds=>
    rcases hd with rfl|rfl
    ·
     dsimp only[itF,itSt,bkLV,bkAr];have hl:=hS.len;have hz:=qj2 acc;simp only[rbx,go_sem];refine qz5 ?_;simp only[rbx,lE,lA,hA3.i0,hA3.i1,hA3.get,tokD,go_sem]
     cases hk0:(Lg.hd ts3).kind==0 with
     |true=>
      rw[Lg.zx6,if_pos (eq_of_beq hk0)]at hK
      have hk1:((Lg.hd ts3).kind != 0)=false:=by simp[bne,hk0]
      simp only[hk1,rbx,go_sem]
      have hK2:outT Kr acc:=by have this:outT Kr (acc++[]):=hK;rw[List.append_nil]at this;exact this
      unfold outT at hK2
      refine⟨_,.node 0 [] 0 0 acc,rfl,qzc (qzo hS),by rw[Lg.qz2];omega,?_⟩
      simp only[go_sem]
      refine⟨fun h=>?_,fun h=>?_⟩
      ·rw[if_pos (by have:=lF h;omega)]at hK2;exact⟨_,.cons (qzc qqp) (.cons (.rfl _) (.cons (.rfl _) .nil)),hK2⟩
      ·rw[if_neg (by have:=lG h;omega)]at hK2;exact⟨_,.cons (qzc (qzo hS)) (.cons (.rfl _) (.cons (.rfl _) .nil)),hK2⟩
     |false=>
      have hk1:((Lg.hd ts3).kind != 0)=true:=by simp[bne,hk0]
      rw[zqk (by simpa using hk0)]at hK;simp only[hk1,rbx,go_sem];refine qz5 ?_;simp only[rbx,lE,lA,hA3.i0,hA3.i1,hA3.get,tokD,go_sem]
      refine⟨T,i3,ts3,0,0,0,Lg.sFn,rfl,rfl,hA3,.inl ⟨rfl,fun h=>?_,fun h=>?_⟩⟩
      · have hit:Lg.item ts3=Lg.fn (Lg.hd ts3).pos ts3.tail:=by unfold Lg.item;rw[if_pos h]
        simp only[go_sem];refine⟨(Lg.hd ts3).pos,T,i3+1,ts3.tail,0,rfl,rfl,hA3.isT h,?_⟩;rw[<-hit];refine qva hK (fun p' c hc hE x i' ts' hb' hA'=>?_) (fun x ts4 i4 e hK hA4=>?_)
        · simp only[go_sem]
          refine⟨by simp only[lB]at hl;omega,by simp only[lB]at hl;omega,?_⟩
          exact⟨⟨.bad 70 ((d::ds)++[exD x]) (acc++[x]) i' c p',Or.inl rfl,hc,⟨ts',hA'⟩,hS.snoc (qzk x),by rw[lC,List.length_singleton];omega,hE⟩,zsub (sP3 qza) (sP2 (qzd (by simp[put,bkLV]) qza)) (sP1 qza),Nat.succ_pos _⟩
        · have h1:=Lg.item_eats _ _ _ e;have h2:=Lg.item_pay _ _ _ e;simp only[go_sem]
          refine⟨by simp only[lB]at hl;omega,by simp only[lB]at hl;omega,?_⟩
          exact⟨⟨.go 70 ((d::ds)++[exD x]) (acc++[x]) i4 ts4,Or.inl rfl,hA4,hS.snoc (qzk x),by rw[qqt];omega,qwq hK⟩,zsub (sP3 qza) (sP2 (qzd (by simp[put,bkLV]) qza)) (sP1 qza),by show ts4.length+1<ts3.length+1;omega⟩
      · have hit:Lg.item ts3=Lg.bnd (Lg.must Lg.sType ts3) fun _ ts'=>Lg.typ (Lg.hd ts3).pos ts':=by unfold Lg.item;rw[if_neg (qzg h)]
        have hit2:∀x ts4,Lg.item ts3=.ok (x,ts4)->ts4.length<ts3.length/\Lg.size x+3*ts4.length<=3*ts3.length:=fun x ts4 e=>⟨Lg.item_eats _ _ _ e,Lg.item_pay _ _ _ e⟩
        rw[hit]at hit2;rw[hit,bnd3]at hK;simp only[go_sem];refine⟨_,T,i3,ts3,0,0,0,rfl,rfl,hA3,.inl ⟨rfl,qva hK (fun p' c hc hE _ i' ts' hb' hA'=>?_) (fun _ ts5 i5 e5 hK hA5=>?_)⟩⟩
        · have hc':(c==0)=false:=by simpa using hc
          simp only[rbx,hc',go_sem]
          exact⟨⟨.bad 70 (d::ds) acc i' c p',Or.inl rfl,hc,⟨ts',hA'⟩,hS,by omega,hE⟩,zsub (sP3 qza) (sP3 qza) (sP1 qza),Nat.succ_pos _⟩
        · simp only[rbx,go_sem];refine⟨(Lg.hd ts3).pos,T,i5,ts5,0,0,0,rfl,rfl,hA5,.inl ⟨rfl,qva hK (fun p' c hc hE x i' ts' hb' hA'=>?_) (fun x ts4 i4 e hK hA4=>?_)⟩⟩
          · simp only[go_sem]
            refine⟨by simp only[lB]at hl;omega,by simp only[lB]at hl;omega,?_⟩
            exact⟨⟨.bad 70 ((d::ds)++[exD x]) (acc++[x]) i' c p',Or.inl rfl,hc,⟨ts',hA'⟩,hS.snoc (qzk x),by rw[lC,List.length_singleton];omega,hE⟩,zsub (sP3 qza) (sP2 (qzd (by simp[put,bkLV]) qza)) (sP1 qza),Nat.succ_pos _⟩
          · obtain⟨h1,h2⟩:=hit2 x ts4 (by rw[show Lg.must Lg.sType ts3=_ from e5];exact e);simp only[go_sem]
            refine⟨by simp only[lB]at hl;omega,by simp only[lB]at hl;omega,?_⟩
            exact⟨⟨.go 70 ((d::ds)++[exD x]) (acc++[x]) i4 ts4,Or.inl rfl,hA4,hS.snoc (qzk x),by rw[qqt];omega,qwq hK⟩,zsub (sP3 qza) (sP2 (qzd (by simp[put,bkLV]) qza)) (sP1 qza),by show ts4.length+1<ts3.length+1;omega⟩
    ·
     dsimp only[itF,itSt,bkLV,bkAr];have hl:=hS.len;have hz:=qj2 acc;simp only[rbx,go_sem];refine qz5 ?_;simp only[rbx,lE,lA,hA3.i0,hA3.i1,hA3.get,tokD,go_sem]
     cases hk0:(Lg.hd ts3).kind==0 with
     |true=>
      rw[Lg.zx6,if_pos (eq_of_beq hk0)]at hK
      have hk1:((Lg.hd ts3).kind != 0)=false:=by simp[bne,hk0]
      simp only[hk1,rbx,go_sem]
      have hK2:outT Kr acc:=by have this:outT Kr (acc++[]):=hK;rw[List.append_nil]at this;exact this
      unfold outT at hK2
      refine⟨_,.node 0 [] 0 0 acc,rfl,qzc (qzo hS),by rw[Lg.qz2];omega,?_⟩
      simp only[go_sem]
      refine⟨fun h=>?_,fun h=>?_⟩
      ·rw[if_pos (by have:=lF h;omega)]at hK2;exact⟨_,.cons (qzc qqp) (.cons (.rfl _) (.cons (.rfl _) .nil)),hK2⟩
      ·rw[if_neg (by have:=lG h;omega)]at hK2;exact⟨_,.cons (qzc (qzo hS)) (.cons (.rfl _) (.cons (.rfl _) .nil)),hK2⟩
     |false=>
      have hk1:((Lg.hd ts3).kind != 0)=true:=by simp[bne,hk0]
      rw[zqk (by simpa using hk0)]at hK;simp only[hk1,rbx,go_sem];refine qz5 ?_;simp only[rbx,lE,lA,hA3.i0,hA3.i1,hA3.get,tokD,go_sem]
      refine⟨T,i3,ts3,0,0,0,Lg.sFn,rfl,rfl,hA3,.inl ⟨rfl,fun h=>?_,fun h=>?_⟩⟩
      · have hit:Lg.item ts3=Lg.fn (Lg.hd ts3).pos ts3.tail:=by unfold Lg.item;rw[if_pos h]
        simp only[go_sem];refine⟨(Lg.hd ts3).pos,T,i3+1,ts3.tail,0,rfl,rfl,hA3.isT h,?_⟩;rw[<-hit];refine qva hK (fun p' c hc hE x i' ts' hb' hA'=>?_) (fun x ts4 i4 e hK hA4=>?_)
        · simp only[go_sem]
          refine⟨by simp only[lB]at hl;omega,by simp only[lB]at hl;omega,?_⟩
          exact⟨⟨.bad 86 ((d::ds)++[exD x]) (acc++[x]) i' c p',Or.inr rfl,hc,⟨ts',hA'⟩,hS.snoc (qzk x),by rw[lC,List.length_singleton];omega,hE⟩,zsub (sP3 qza) (sP2 (qzd (by simp[put,bkLV]) qza)) (sP1 qza),Nat.succ_pos _⟩
        · have h1:=Lg.item_eats _ _ _ e;have h2:=Lg.item_pay _ _ _ e;simp only[go_sem]
          refine⟨by simp only[lB]at hl;omega,by simp only[lB]at hl;omega,?_⟩
          exact⟨⟨.go 86 ((d::ds)++[exD x]) (acc++[x]) i4 ts4,Or.inr rfl,hA4,hS.snoc (qzk x),by rw[qqt];omega,qwq hK⟩,zsub (sP3 qza) (sP2 (qzd (by simp[put,bkLV]) qza)) (sP1 qza),by show ts4.length+1<ts3.length+1;omega⟩
      · have hit:Lg.item ts3=Lg.bnd (Lg.must Lg.sType ts3) fun _ ts'=>Lg.typ (Lg.hd ts3).pos ts':=by unfold Lg.item;rw[if_neg (qzg h)]
        have hit2:∀x ts4,Lg.item ts3=.ok (x,ts4)->ts4.length<ts3.length/\Lg.size x+3*ts4.length<=3*ts3.length:=fun x ts4 e=>⟨Lg.item_eats _ _ _ e,Lg.item_pay _ _ _ e⟩
        rw[hit]at hit2;rw[hit,bnd3]at hK;simp only[go_sem];refine⟨_,T,i3,ts3,0,0,0,rfl,rfl,hA3,.inl ⟨rfl,qva hK (fun p' c hc hE _ i' ts' hb' hA'=>?_) (fun _ ts5 i5 e5 hK hA5=>?_)⟩⟩
        · have hc':(c==0)=false:=by simpa using hc
          simp only[rbx,hc',go_sem]
          exact⟨⟨.bad 86 (d::ds) acc i' c p',Or.inr rfl,hc,⟨ts',hA'⟩,hS,by omega,hE⟩,zsub (sP3 qza) (sP3 qza) (sP1 qza),Nat.succ_pos _⟩
        · simp only[rbx,go_sem];refine⟨(Lg.hd ts3).pos,T,i5,ts5,0,0,0,rfl,rfl,hA5,.inl ⟨rfl,qva hK (fun p' c hc hE x i' ts' hb' hA'=>?_) (fun x ts4 i4 e hK hA4=>?_)⟩⟩
          · simp only[go_sem]
            refine⟨by simp only[lB]at hl;omega,by simp only[lB]at hl;omega,?_⟩
            exact⟨⟨.bad 86 ((d::ds)++[exD x]) (acc++[x]) i' c p',Or.inr rfl,hc,⟨ts',hA'⟩,hS.snoc (qzk x),by rw[lC,List.length_singleton];omega,hE⟩,zsub (sP3 qza) (sP2 (qzd (by simp[put,bkLV]) qza)) (sP1 qza),Nat.succ_pos _⟩
          · obtain⟨h1,h2⟩:=hit2 x ts4 (by rw[show Lg.must Lg.sType ts3=_ from e5];exact e);simp only[go_sem]
            refine⟨by simp only[lB]at hl;omega,by simp only[lB]at hl;omega,?_⟩
            exact⟨⟨.go 86 ((d::ds)++[exD x]) (acc++[x]) i4 ts4,Or.inr rfl,hA4,hS.snoc (qzk x),by rw[qqt];omega,qwq hK⟩,zsub (sP3 qza) (sP2 (qzd (by simp[put,bkLV]) qza)) (sP1 qza),by show ts4.length+1<ts3.length+1;omega⟩
  |bad dd ds acc i3 c p'=>
   obtain⟨hd,hc,⟨ts',hA'⟩,hS,hn,hE⟩:=hq
   have hc':(c==0)=false:=by simpa using hc
   have hcn:(c != 0)=true:=by simpa using hc
   cases ds with
   |nil=>
    dsimp only[itF,itSt,bkLV,bkAr];simp only[rbx,go_sem];refine qz5 ?_;simp only[rbx,hc',hcn,go_sem];refine qzm [] [] (wT 1 (wT 5 (wR 2 (wT 3 (wR 6 (wT 7 (wC 0 (wC 4 (wB 8 (wA 9 (wT 10 (wT 11 wZ))) 9 (wT 10 (wA 8 (wT 11 wZ)))) 8 (wB 4 (wA 9 (wT 10 (wT 11 wZ))) 9 (wA 4 (wT 10 (wT 11 wZ)))) 9 (wB 4 (wT 10 (wA 8 (wT 11 wZ))) 8 (wA 4 (wT 10 (wT 11 wZ))))) 4 (wB 0 (wB 8 (wA 9 (wT 10 (wT 11 wZ))) 9 (wT 10 (wA 8 (wT 11 wZ)))) 8 (wD 0 9 (wT 10 (wT 11 wZ)))) 8 (wB 0 (wB 4 (wA 9 (wT 10 (wT 11 wZ))) 9 (wA 4 (wT 10 (wT 11 wZ)))) 4 (wD 0 9 (wT 10 (wT 11 wZ))))))))))) ?_;simp only[rbx,go_sem]
    repeat' apply And.intro
    all_goals exact⟨_,.cons (qzc qqp) (.cons (.rfl _) (.cons (.rfl _) .nil)),hE⟩
   |cons d ds=>
    dsimp only[itF,itSt,bkLV,bkAr];simp only[rbx,go_sem];refine qz5 ?_;simp only[rbx,hc',hcn,go_sem];refine qzm [] [] (wT 1 (wT 5 (wR 2 (wT 3 (wR 6 (wT 7 (wC 0 (wC 4 (wB 8 (wA 9 (wT 10 (wT 11 wZ))) 9 (wT 10 (wA 8 (wT 11 wZ)))) 8 (wB 4 (wA 9 (wT 10 (wT 11 wZ))) 9 (wA 4 (wT 10 (wT 11 wZ)))) 9 (wB 4 (wT 10 (wA 8 (wT 11 wZ))) 8 (wA 4 (wT 10 (wT 11 wZ))))) 4 (wB 0 (wB 8 (wA 9 (wT 10 (wT 11 wZ))) 9 (wT 10 (wA 8 (wT 11 wZ)))) 8 (wD 0 9 (wT 10 (wT 11 wZ)))) 8 (wB 0 (wB 4 (wA 9 (wT 10 (wT 11 wZ))) 9 (wA 4 (wT 10 (wT 11 wZ)))) 4 (wD 0 9 (wT 10 (wT 11 wZ))))))))))) ?_;simp only[rbx,go_sem]
    repeat' apply And.intro
    all_goals exact⟨_,.cons (qzc qqp) (.cons (.rfl _) (.cons (.rfl _) .nil)),hE⟩
end Lx
