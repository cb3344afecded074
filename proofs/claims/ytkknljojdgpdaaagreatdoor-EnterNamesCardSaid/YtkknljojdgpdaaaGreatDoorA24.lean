import Derived.Test.YtkknljojdgpdaaaGreatDoorA23
set_option maxHeartbeats 32000000
set_option linter.unusedSimpArgs false
set_option linter.unusedVariables false
set_option maxRecDepth 20000
namespace Lx
open Go
open Lg (Tok Tree)
open Go.Proofs (Tryz.prog)
open Go.Proofs.Tryz
theorem zjn {α:Type}(x:Lg.PR α):x=Lg.bnd x fun v ts=>.ok (v,ts):=by
 cases x<;>rfl
theorem plus_minus {ts:List Tok}(h:Lg.isT Lg.sPlus ts=true):Lg.isT Lg.sMinus ts=false:=by
 simp only[Lg.isT,Bool.and_eq_true,beq_iff_eq]at h;simp[Lg.isT,h.2,Lg.sPlus,Lg.sMinus]
theorem At.j0 {T:List Tok}{i:Nat}{ts:List Tok}(_:At T (i+1) ts):(0<=(i:Int)+1)=True:=eq_true (by omega)
theorem At.j1 {T:List Tok}{i:Nat}{ts:List Tok}(h:At T (i+1) ts):((i:Int)+1<(T.length:Int))=True:=eq_true (by have:=h.lt;omega)
theorem At.j2 {T:List Tok}{i:Nat}{ts:List Tok}(h:At T (i+1) ts):(-9223372036854775808<=(i:Int)+1/\(i:Int)+1<=9223372036854775807)=True:=eq_true (by have:=h.lt;have:=h.2.2.1;omega)
theorem At.jget {T:List Tok}{i:Nat}{ts:List Tok}(h:At T (i+1) ts):(T.map tokD)[((i:Int)+1).toNat]?=some (tokD (Lg.hd ts)):=h.get
theorem rexpr_OK:OK Tryz.prog 171 (refP (fun _=>True) (fun t=>.d (qzr t)) Lg.expr []):=by
 refine fn_OK' qzu (E:=EV) (sp:=spL [(52,rhas),(158,(refP (· =0) (fun v:Int=>.d (.int .i64 v)) (Lg.zzr 1) [])),(104,(refP (fun _=>True) (fun t=>.d (qx8 t)) Lg.name [])),(142,(refP (fun _=>True) (fun t=>.d (qx8 t)) Lg.term [])),(103,ris),(159,(refP (fun _=>True) (fun xs=>.d (.sl 5 (qze xs) false)) Lg.args [])),(54,zq6),(161,rmore)]) qzt qzl (OKs.ok ⟨qxp,⟨qwk,⟨qjq,⟨zzo,⟨zxu,⟨zvk,⟨qx1,⟨rmore_OK,trivial⟩⟩⟩⟩⟩⟩⟩⟩) func171 rfl ntmps171 results171 call171 [1000] none ?_;rintro ys bx Kr Kp ⟨T,i,ts,deep,fl,a,rfl,hb,hA,hK⟩
 refine⟨[(1000,rbx T i deep fl a)],rfl,⟨by decide,hb,trivial⟩,by simp,?_⟩
 simp only[rbx,lE,lA,hA.i0,hA.i1,hA.get,tokD,List.take_length,go_sem];refine qws [] [] (wT 0 (wT 4 (wR 1 (wT 2 (wR 5 (wT 6 (wC 3 (wB 7 (wR 8 (wT 9 (wR 10 (wB 11 (wD 12 13 wZ) 12 (wD 11 13 wZ))))) 12 (wA 7 (wR 8 (wT 9 (wR 10 (wD 11 13 wZ)))))) 7 (wB 3 (wR 8 (wT 9 (wR 10 (wB 11 (wD 12 13 wZ) 12 (wD 11 13 wZ))))) 12 (wA 3 (wR 8 (wT 9 (wR 10 (wD 11 13 wZ)))))) 12 (wB 3 (wA 7 (wR 8 (wT 9 (wR 10 (wD 11 13 wZ))))) 7 (wA 3 (wR 8 (wT 9 (wR 10 (wD 11 13 wZ))))))))))))) ⟨142,put 0 (.bp 1000 0) (put 2 (.bp 2 0) (put 3 (.bp 3 0) nix)),put 1000 (rbx T i deep fl a) (put 2 ⟨qvp,100⟩ (put 3 ⟨[.d (.int .i64 0),.d (.st []),.d (.int .i64 0),.d (.int .i64 (Lg.hd ts).pos),.d (.imm (.slice none 0 0))],100⟩ nix)),nix⟩ ?_ ?_
 · simp only[rbx,lE,lA,hA.i0,hA.i1,hA.get,tokD,List.take_length,go_sem]
   repeat' apply And.intro
   all_goals exact zsub (sP3 qza) (sP3 qza) qza
 · simp only[go_sem]
   rcases hK with⟨rfl,hK⟩|⟨hf,hK⟩
   · unfold Lg.expr at hK
     refine⟨T,i,ts,deep,0,a,Lg.sNew,rfl,rfl,hA,.inl ⟨rfl,fun h=>?_,fun h=>?_⟩⟩
     · rw[if_pos h]at hK;simp only[go_sem];refine⟨T,i+1,ts.tail,deep,0,a,rfl,rfl,hA.isT h,.inl ⟨rfl,qzf hK (fun p' c hc hE v i' ts' hb' hA'=>?_) (fun v ts2 i2 e hK hA2=>?_)⟩⟩
       ·simp only[go_sem];exact⟨_,qzb (qzc (.nil _ _)),hE (.node 23 [] v (Lg.hd ts).pos []) i' trivial ⟨ts',hA'⟩⟩
       ·simp only[go_sem];exact⟨_,qzb (qzc (.nil _ _)),hK i2 hA2⟩
     · rw [if_neg (qzg h)]at hK;simp only[go_sem]
       refine⟨T,i,ts,deep,0,a,Lg.sArray,rfl,rfl,hA,.inl ⟨rfl,fun h=>?_,fun h=>?_⟩⟩
       · rw[if_pos h]at hK;simp only[go_sem];refine⟨T,i+1,ts.tail,deep,0,a,rfl,rfl,hA.isT h,.inl ⟨rfl,qzf hK (fun p' c hc hE v i' ts' hb' hA'=>?_) (fun v ts2 i2 e hK hA2=>?_)⟩⟩
         ·simp only[go_sem];exact⟨_,qzb (qzc (.nil _ _)),hE (.node 24 v.text 0 (Lg.hd ts).pos []) i' trivial ⟨ts',hA'⟩⟩
         ·simp only[go_sem];exact⟨_,qzb (qzc (.nil _ _)),hK i2 hA2⟩
       · rw [if_neg (qzg h)]at hK;simp only[go_sem]
         refine⟨T,i,ts,deep,0,a,Lg.sAmp,rfl,rfl,hA,.inl ⟨rfl,fun h=>?_,fun h=>?_⟩⟩
         · rw[if_pos h]at hK;simp only[go_sem];have hA1:=hA.isT h
           refine⟨T,i+1,ts.tail,deep,0,a,Lg.sMut,rfl,rfl,hA1,.inl ⟨rfl,fun h=>?_,fun h=>?_⟩⟩
           · rw[if_pos h]at hK;simp only[go_sem];refine⟨T,i+1+1,ts.tail.tail,deep,0,a,rfl,rfl,hA1.isT h,.inl ⟨rfl,qzf hK (fun p' c hc hE v i' ts' hb' hA'=>?_) (fun v ts2 i2 e hK hA2=>?_)⟩⟩
             ·simp only[go_sem];exact⟨_,qzb (qzc (.nil _ _)),hE (.node 27 v.text 0 (Lg.hd ts).pos []) i' trivial ⟨ts',hA'⟩⟩
             ·simp only[go_sem];exact⟨_,qzb (qzc (.nil _ _)),hK i2 hA2⟩
           · rw[if_neg (qzg h)]at hK;simp only[go_sem];refine⟨T,i+1,ts.tail,deep,0,a,rfl,rfl,hA1,.inl ⟨rfl,qzf hK (fun p' c hc hE v i' ts' hb' hA'=>?_) (fun v ts2 i2 e hK hA2=>?_)⟩⟩
             ·simp only[go_sem];exact⟨_,qzb (qzc (.nil _ _)),hE (.node 26 v.text 0 (Lg.hd ts).pos []) i' trivial ⟨ts',hA'⟩⟩
             ·simp only[go_sem];exact⟨_,qzb (qzc (.nil _ _)),hK i2 hA2⟩
         · rw [if_neg (qzg h)]at hK;simp only[rbx,lE,lA,hA.i0,hA.i1,hA.get,tokD,List.take_length,go_sem];refine qz5 ?_;simp only[rbx,lE,lA,hA.i0,hA.i1,hA.get,tokD,List.take_length,go_sem]
           refine⟨fun h5=>?_,fun h5=>?_⟩
           · rw[if_pos (by simpa using h5),zjn (Lg.term ts)]at hK;refine⟨T,i,ts,deep,0,a,rfl,rfl,hA,.inl ⟨rfl,qzf hK (fun p' c hc hE v i' ts' hb' hA'=>?_) (fun v ts2 i2 e hK hA2=>?_)⟩⟩
             ·simp only[go_sem];exact⟨_,qzb (qqd v),hE (qqj v) i' trivial ⟨ts',hA'⟩⟩
             ·have hv:=qxx e;simp only[go_sem];exact⟨_,qzb (qxe hv),hK i2 hA2⟩
           · rw [if_neg (by simpa using h5)]at hK;refine⟨T,i,ts,deep,0,a,rfl,rfl,hA,.inl ⟨rfl,qzf hK (fun p' c hc hE v i' ts' hb' hA'=>?_) (fun v ts2 i2 e hK hA2=>?_)⟩⟩
             · simp only[go_sem]
               (refine⟨T,i',ts',deep,c,p',_,rfl,rfl,hA',.inr ⟨hc,?_⟩⟩;simp only[go_sem])
               (refine⟨T,i',ts',deep,c,p',_,rfl,rfl,hA',.inr ⟨hc,?_⟩⟩;simp only[go_sem])
               (refine⟨T,i',ts',deep,c,p',_,rfl,rfl,hA',.inr ⟨hc,?_⟩⟩;simp only[go_sem])
               (refine⟨T,i',ts',deep,c,p',_,rfl,rfl,hA',.inr ⟨hc,?_⟩⟩;simp only[go_sem])
               refine qz5 ?_;simp only[go_sem]
               (refine⟨v,T,i',ts',deep,c,p',rfl,rfl,hA',.inr ⟨hc,fun w hy_w=>?_⟩⟩;simp only[go_sem])
               exact⟨_,qzb (qqd w),hE (qqj w) i' trivial ⟨ts',hA'⟩⟩
             · have hv:=qqm e;obtain⟨k,t,m,p,ks⟩:=v;cases hv;simp only[go_sem];refine⟨T,i2,ts2,deep,0,a,Lg.sLpar,rfl,rfl,hA2,.inl ⟨rfl,?_⟩⟩;simp only[go_sem]
               refine⟨fun h=>?_,fun h=>?_⟩
               · rw[if_pos h]at hK;refine⟨T,i2,ts2,deep,0,a,rfl,rfl,hA2,.inl ⟨rfl,qzf hK (fun p' c hc hE xs i' ts' hb' hA'=>?_) (fun xs ts3 i3 e hK hA3=>?_)⟩⟩
                 ·simp only[go_sem];exact⟨_,qzb (qzc (.rfl _)),hE (.node 28 t m p xs) i' trivial ⟨ts',hA'⟩⟩
                 ·simp only[go_sem];exact⟨_,qzb (qzc (.rfl _)),hK i3 hA3⟩
               · rw[if_neg (qzg h)]at hK
                 refine⟨T,i2,ts2,deep,0,a,Lg.sLbr,rfl,rfl,hA2,.inl ⟨rfl,fun h=>?_,fun h=>?_⟩⟩
                 · rw[if_pos h]at hK;simp only[go_sem];refine⟨T,i2+1,ts2.tail,deep,0,a,rfl,rfl,hA2.isT h,.inl ⟨rfl,qzf hK (fun p' c hc hE w i' ts' hb' hA'=>?_) (fun w ts3 i3 e hK hA3=>?_)⟩⟩
                   · simp only[go_sem]
                     (refine⟨_,T,i',ts',deep,c,p',rfl,rfl,hA',.inr ⟨hc,fun _ _=>?_⟩⟩;simp only[go_sem])
                     exact⟨_,qzb (qzc (qzo (ts:=[qqj w]) (.cons (qqd w) .nil))),hE (.node 25 t m p [qqj w]) i' trivial ⟨ts',hA'⟩⟩
                   · have hw:=qxx e;simp only[go_sem];refine⟨_,T,i3,ts3,deep,0,a,rfl,rfl,hA3,.inl ⟨rfl,qzf hK (fun p' c hc hE _ i' ts' hb' hA'=>?_) (fun _ ts4 i4 e hK hA4=>?_)⟩⟩
                     ·simp only[go_sem];exact⟨_,qzb (qzc (qzo (ts:=[qqj w]) (.cons (qqd w) .nil))),hE (.node 25 t m p [qqj w]) i' trivial ⟨ts',hA'⟩⟩
                     ·simp only[go_sem];exact⟨_,qzb (qzc (qzo (ts:=[w]) (.cons (qxe hw) .nil))),hK i4 hA4⟩
                 · rw[if_neg (qzg h)]at hK;simp only[go_sem];refine⟨T,i2,ts2,deep,0,a,Lg.sPlus,rfl,rfl,hA2,.inl ⟨rfl,?_⟩⟩;simp only[go_sem];refine⟨T,i2,ts2,deep,0,a,Lg.sMinus,rfl,rfl,hA2,.inl ⟨rfl,?_⟩⟩;simp only[go_sem];refine qz5 ?_
                   cases hp:Lg.isT Lg.sPlus ts2 with
                   |true=>
                    have hm:=plus_minus hp;have hA3:=hA2.isT hp;rw[hp,hm,Bool.true_and,Bool.false_and,if_neg (show¬false=true by decide)]at hK;simp only[hm,rbx,lE,hA3.j0,hA3.j1,hA3.j2,hA3.jget,tokD,go_sem]
                    refine⟨fun h1=>?_,fun h1=>?_⟩
                    · rw[if_pos h1]at hK;refine⟨T,i2+1,ts2.tail,deep,0,a,rfl,rfl,hA3,.inl ⟨rfl,qzf hK (fun p' c hc hE w i' ts' hb' hA'=>?_) (fun w ts4 i4 e hK hA4=>?_)⟩⟩
                      ·simp only[hm,go_sem];exact⟨_,qzb (qzc (qzo (ts:=[.node k t m p [],qqj w]) (.cons (qxe rfl) (.cons (qqd w) .nil)))),hE (.node 21 [] 0 p [.node k t m p [],qqj w]) i' trivial ⟨ts',hA'⟩⟩
                      ·have hw:=qqm e;simp only[hm,go_sem];exact⟨_,qzb (qzc (qzo (ts:=[.node k t m p [],w]) (.cons (qxe rfl) (.cons (qxe hw) .nil)))),hK i4 hA4⟩
                    · rw[if_neg (by rw[h1];decide),zjn (Lg.more _ _)]at hK;refine⟨_,T,i2,ts2,deep,0,a,rfl,rfl,hA2,.inl ⟨rfl,qzf hK (fun p' c hc hE w i' ts' hb' hA'=>?_) (fun w ts4 i4 e hK hA4=>?_)⟩⟩
                      ·simp only[go_sem];exact⟨_,qzb (qqd w),hE (qqj w) i' trivial ⟨ts',hA'⟩⟩
                      ·have hw:=zzu rfl e;simp only[go_sem];exact⟨_,qzb (qxe hw),hK i4 hA4⟩
                   |false=>
                    rw[hp,Bool.false_and,if_neg (show¬false=true by decide)]at hK
                    cases hm:Lg.isT Lg.sMinus ts2 with
                    |true=>
                     have hA3:=hA2.isT hm;rw[hm,Bool.true_and]at hK;simp only[rbx,lE,hA3.j0,hA3.j1,hA3.j2,hA3.jget,tokD,go_sem]
                     refine⟨fun h1=>?_,fun h1=>?_⟩
                     · rw[if_pos h1]at hK;refine⟨T,i2+1,ts2.tail,deep,0,a,rfl,rfl,hA3,.inl ⟨rfl,qzf hK (fun p' c hc hE w i' ts' hb' hA'=>?_) (fun w ts4 i4 e hK hA4=>?_)⟩⟩
                       ·simp only[hm,go_sem];exact⟨_,qzb (qzc (qzo (ts:=[.node k t m p [],qqj w]) (.cons (qxe rfl) (.cons (qqd w) .nil)))),hE (.node 22 [] 0 p [.node k t m p [],qqj w]) i' trivial ⟨ts',hA'⟩⟩
                       ·have hw:=qqm e;simp only[hm,go_sem];exact⟨_,qzb (qzc (qzo (ts:=[.node k t m p [],w]) (.cons (qxe rfl) (.cons (qxe hw) .nil)))),hK i4 hA4⟩
                     · rw[if_neg (by rw[h1];decide),zjn (Lg.more _ _)]at hK;refine⟨_,T,i2,ts2,deep,0,a,rfl,rfl,hA2,.inl ⟨rfl,qzf hK (fun p' c hc hE w i' ts' hb' hA'=>?_) (fun w ts4 i4 e hK hA4=>?_)⟩⟩
                       ·simp only[go_sem];exact⟨_,qzb (qqd w),hE (qqj w) i' trivial ⟨ts',hA'⟩⟩
                       ·have hw:=zzu rfl e;simp only[go_sem];exact⟨_,qzb (qxe hw),hK i4 hA4⟩
                    |false=>
                     rw[hm,Bool.false_and,if_neg (show¬false=true by decide),zjn (Lg.more _ _)]at hK;simp only[go_sem];refine⟨_,T,i2,ts2,deep,0,a,rfl,rfl,hA2,.inl ⟨rfl,qzf hK (fun p' c hc hE w i' ts' hb' hA'=>?_) (fun w ts4 i4 e hK hA4=>?_)⟩⟩
                     ·simp only[go_sem];exact⟨_,qzb (qqd w),hE (qqj w) i' trivial ⟨ts',hA'⟩⟩
                     ·have hw:=zzu rfl e;simp only[go_sem];exact⟨_,qzb (qxe hw),hK i4 hA4⟩
   · (refine⟨T,i,ts,deep,fl,a,_,rfl,rfl,hA,.inr ⟨hf,?_⟩⟩;simp only[go_sem])
     (refine⟨T,i,ts,deep,fl,a,_,rfl,rfl,hA,.inr ⟨hf,?_⟩⟩;simp only[go_sem])
     (refine⟨T,i,ts,deep,fl,a,_,rfl,rfl,hA,.inr ⟨hf,?_⟩⟩;simp only[go_sem])
     simp only[rbx,lE,lA,hA.i0,hA.i1,hA.get,tokD,List.take_length,go_sem];refine qz5 ?_;simp only[rbx,lE,lA,hA.i0,hA.i1,hA.get,tokD,List.take_length,go_sem]
     refine⟨fun h5=>?_,fun h5=>?_⟩
     · (refine⟨T,i,ts,deep,fl,a,rfl,rfl,hA,.inr ⟨hf,fun v hy_v=>?_⟩⟩;simp only[go_sem])
       exact⟨_,qzb (qqd v),hK (qqj v) trivial⟩
     · (refine⟨T,i,ts,deep,fl,a,rfl,rfl,hA,.inr ⟨hf,fun v hy_v=>?_⟩⟩;simp only[go_sem])
       (refine⟨T,i,ts,deep,fl,a,_,rfl,rfl,hA,.inr ⟨hf,?_⟩⟩;simp only[go_sem])
       (refine⟨T,i,ts,deep,fl,a,_,rfl,rfl,hA,.inr ⟨hf,?_⟩⟩;simp only[go_sem])
       (refine⟨T,i,ts,deep,fl,a,_,rfl,rfl,hA,.inr ⟨hf,?_⟩⟩;simp only[go_sem])
       (refine⟨T,i,ts,deep,fl,a,_,rfl,rfl,hA,.inr ⟨hf,?_⟩⟩;simp only[go_sem])
       refine qz5 ?_;simp only[go_sem]
       (refine⟨v,T,i,ts,deep,fl,a,rfl,rfl,hA,.inr ⟨hf,fun w hy_w=>?_⟩⟩;simp only[go_sem])
       exact⟨_,qzb (qqd w),hK (qqj w) trivial⟩
abbrev rnamed (ts:List Tok):Lg.PR Tree:=Lg.bnd (Lg.name ts) Lg.named
theorem rnamed_OK:OK Tryz.prog 160 (refP (fun _=>True) (fun t=>.d (qzr t)) rnamed []):=by
 refine fn_OK' qzu (E:=EV) (sp:=spL [(104,(refP (fun _=>True) (fun t=>.d (qx8 t)) Lg.name [])),(103,ris),(159,(refP (fun _=>True) (fun xs=>.d (.sl 5 (qze xs) false)) Lg.args [])),(52,rhas),(142,(refP (fun _=>True) (fun t=>.d (qx8 t)) Lg.term [])),(54,zq6),(171,(refP (fun _=>True) (fun t=>.d (qzr t)) Lg.expr []))]) qzt qzl (OKs.ok ⟨qjq,⟨zxu,⟨zvk,⟨qxp,⟨zzo,⟨qx1,⟨rexpr_OK,trivial⟩⟩⟩⟩⟩⟩⟩) func160 rfl ntmps160 results160 call160 [1000] none ?_;rintro ys bx Kr Kp ⟨T,i,ts,deep,fl,a,rfl,hb,hA,hK⟩
 refine⟨[(1000,rbx T i deep fl a)],rfl,⟨by decide,hb,trivial⟩,by simp,?_⟩
 simp only[go_sem]
 rcases hK with⟨rfl,hK⟩|⟨hf,hK⟩
 · refine ⟨T,i,ts,deep,0,a,rfl,rfl,hA,.inl ⟨rfl,qzf hK (fun p' c hc hE v i' ts' hb' hA'=>?_) (fun v ts2 i2 e hK hA2=>?_)⟩⟩
   · simp only[go_sem]
     (refine⟨T,i',ts',deep,c,p',_,rfl,rfl,hA',.inr ⟨hc,?_⟩⟩;simp only[go_sem])
     (refine⟨T,i',ts',deep,c,p',_,rfl,rfl,hA',.inr ⟨hc,?_⟩⟩;simp only[go_sem])
     (refine⟨_,T,i',ts',deep,c,p',rfl,rfl,hA',.inr ⟨hc,fun _ _=>?_⟩⟩;simp only[go_sem])
     (refine⟨T,i',ts',deep,c,p',rfl,rfl,hA',.inr ⟨hc,fun w hy_w=>?_⟩⟩;simp only[go_sem])
     exact⟨_,qzb (qzc (qzo (ts:=[w]) (.cons (qzk w) .nil))),hE (.node 10 v.text v.num v.pos [w]) i' trivial ⟨ts',hA'⟩⟩
   · have hv:=qqm e;obtain⟨k,t,m,p,ks⟩:=v;cases hv;unfold Lg.named at hK;simp only[go_sem];refine⟨T,i2,ts2,deep,0,a,Lg.sLpar,rfl,rfl,hA2,.inl ⟨rfl,?_⟩⟩;simp only[go_sem]
     refine⟨fun h=>?_,fun h=>?_⟩
     · rw[if_pos h]at hK;refine⟨T,i2,ts2,deep,0,a,rfl,rfl,hA2,.inl ⟨rfl,qzf hK (fun p' c hc hE xs i' ts' hb' hA'=>?_) (fun xs ts3 i3 e hK hA3=>?_)⟩⟩
       ·simp only[go_sem];exact⟨_,qzb (qzc (qzo (ts:=[.node 28 t m p xs]) (.cons (qzc (.rfl _)) .nil))),hE (.node 20 [] 0 p [.node 28 t m p xs]) i' trivial ⟨ts',hA'⟩⟩
       ·simp only[go_sem];exact⟨_,qzb (qzc (qzo (ts:=[.node 28 t m p xs]) (.cons (qzc (.rfl _)) .nil))),hK i3 hA3⟩
     · rw[if_neg (qzg h)]at hK
       refine⟨T,i2,ts2,deep,0,a,Lg.sLbr,rfl,rfl,hA2,.inl ⟨rfl,fun h=>?_,fun h=>?_⟩⟩
       · rw[if_pos h]at hK;simp only[go_sem];refine⟨T,i2+1,ts2.tail,deep,0,a,rfl,rfl,hA2.isT h,.inl ⟨rfl,qzf hK (fun p' c hc hE w i' ts' hb' hA'=>?_) (fun w ts3 i3 e hK hA3=>?_)⟩⟩
         · simp only[go_sem]
           (refine⟨_,T,i',ts',deep,c,p',rfl,rfl,hA',.inr ⟨hc,fun _ _=>?_⟩⟩;simp only[go_sem])
           (refine⟨_,T,i',ts',deep,c,p',rfl,rfl,hA',.inr ⟨hc,fun _ _=>?_⟩⟩;simp only[go_sem])
           (refine⟨T,i',ts',deep,c,p',rfl,rfl,hA',.inr ⟨hc,fun u hy_u=>?_⟩⟩;simp only[go_sem])
           exact⟨_,qzb (qzc (qzo (ts:=[qqj w,qqj u]) (.cons (qqd w) (.cons (qqd u) .nil)))),hE (.node 11 t m p [qqj w,qqj u]) i' trivial ⟨ts',hA'⟩⟩
         · have hw:=qxx e;simp only[go_sem];refine⟨_,T,i3,ts3,deep,0,a,rfl,rfl,hA3,.inl ⟨rfl,qzf hK (fun p' c hc hE _ i' ts' hb' hA'=>?_) (fun _ ts4 i4 e hK hA4=>?_)⟩⟩
           · simp only[go_sem]
             (refine⟨_,T,i',ts',deep,c,p',rfl,rfl,hA',.inr ⟨hc,fun _ _=>?_⟩⟩;simp only[go_sem])
             (refine⟨T,i',ts',deep,c,p',rfl,rfl,hA',.inr ⟨hc,fun u hy_u=>?_⟩⟩;simp only[go_sem])
             exact⟨_,qzb (qzc (qzo (ts:=[qqj w,qqj u]) (.cons (qqd w) (.cons (qqd u) .nil)))),hE (.node 11 t m p [qqj w,qqj u]) i' trivial ⟨ts',hA'⟩⟩
           · simp only[go_sem];refine⟨_,T,i4,ts4,deep,0,a,rfl,rfl,hA4,.inl ⟨rfl,qzf hK (fun p' c hc hE _ i' ts' hb' hA'=>?_) (fun _ ts5 i5 e hK hA5=>?_)⟩⟩
             · simp only[go_sem]
               (refine⟨T,i',ts',deep,c,p',rfl,rfl,hA',.inr ⟨hc,fun u hy_u=>?_⟩⟩;simp only[go_sem])
               exact⟨_,qzb (qzc (qzo (ts:=[qqj w,qqj u]) (.cons (qqd w) (.cons (qqd u) .nil)))),hE (.node 11 t m p [qqj w,qqj u]) i' trivial ⟨ts',hA'⟩⟩
             · simp only[go_sem];refine⟨T,i5,ts5,deep,0,a,rfl,rfl,hA5,.inl ⟨rfl,qzf hK (fun p' c hc hE u i' ts' hb' hA'=>?_) (fun u ts6 i6 e hK hA6=>?_)⟩⟩
               ·simp only[go_sem];exact⟨_,qzb (qzc (qzo (ts:=[qqj w,qqj u]) (.cons (qqd w) (.cons (qqd u) .nil)))),hE (.node 11 t m p [qqj w,qqj u]) i' trivial ⟨ts',hA'⟩⟩
               ·have hu:=qxx e;simp only[go_sem];exact⟨_,qzb (qzc (qzo (ts:=[w,u]) (.cons (qxe hw) (.cons (qxe hu) .nil)))),hK i6 hA6⟩
       · rw[if_neg (qzg h)]at hK;simp only[go_sem];refine⟨_,T,i2,ts2,deep,0,a,rfl,rfl,hA2,.inl ⟨rfl,qzf hK (fun p' c hc hE _ i' ts' hb' hA'=>?_) (fun _ ts3 i3 e hK hA3=>?_)⟩⟩
         · simp only[go_sem]
           (refine⟨T,i',ts',deep,c,p',rfl,rfl,hA',.inr ⟨hc,fun w hy_w=>?_⟩⟩;simp only[go_sem])
           exact⟨_,qzb (qzc (qzo (ts:=[w]) (.cons (qzk w) .nil))),hE (.node 10 t m p [w]) i' trivial ⟨ts',hA'⟩⟩
         · simp only[go_sem];refine⟨T,i3,ts3,deep,0,a,rfl,rfl,hA3,.inl ⟨rfl,qzf hK (fun p' c hc hE w i' ts' hb' hA'=>?_) (fun w ts4 i4 e hK hA4=>?_)⟩⟩
           ·simp only[go_sem];exact⟨_,qzb (qzc (qzo (ts:=[w]) (.cons (qzk w) .nil))),hE (.node 10 t m p [w]) i' trivial ⟨ts',hA'⟩⟩
           ·simp only[go_sem];exact⟨_,qzb (qzc (qzo (ts:=[w]) (.cons (qzk w) .nil))),hK i4 hA4⟩
 · (refine⟨T,i,ts,deep,fl,a,rfl,rfl,hA,.inr ⟨hf,fun v hy_v=>?_⟩⟩;simp only[go_sem])
   (refine⟨T,i,ts,deep,fl,a,_,rfl,rfl,hA,.inr ⟨hf,?_⟩⟩;simp only[go_sem])
   (refine⟨T,i,ts,deep,fl,a,_,rfl,rfl,hA,.inr ⟨hf,?_⟩⟩;simp only[go_sem])
   (refine⟨_,T,i,ts,deep,fl,a,rfl,rfl,hA,.inr ⟨hf,fun _ _=>?_⟩⟩;simp only[go_sem])
   (refine⟨T,i,ts,deep,fl,a,rfl,rfl,hA,.inr ⟨hf,fun w hy_w=>?_⟩⟩;simp only[go_sem])
   exact⟨_,qzb (qzc (qzo (ts:=[w]) (.cons (qzk w) .nil))),hK (.node 10 v.text v.num v.pos [w]) trivial⟩
abbrev exD (t:Tree):D:=.ag [.int .i64 t.kind,.st t.text,.int .i64 t.num,.int .i64 t.pos,.sl 5 (qze t.kids) false]
def refPd {α:Type}(deep:Int)(bad:α->Prop)(res:α->LV)(f:List Tok->Lg.PR α)(args:List LV):Spec:=fun ys bx Kr _=>∃T i ts fl a,ys=.bp 1000 0::args/\bx 1000=some (rbx T i deep fl a)/\At T i ts/\
 ((fl=0/\refQ T deep a bad res Kr (f ts))\/(fl≠0/\∀y,bad y->Kr (res y) (put 1000 (rbx T i deep fl a) nix) none))
abbrev zxv (deep:Int)(n:Nat):Spec:=refPd deep (fun _=>True) (fun t=>.d (qzr t)) (Lg.block n) []
def brV (t:Tree)(ds:List D):LV:=.ag [.d (.int .i64 t.kind),.d (.st t.text),.d (.int .i64 t.num),.d (.int .i64 t.pos),.os 0 5 ds.length]
@[go_sem]theorem brV_eq (t:Tree)(ds:List D):brV t ds=.ag [.d (.int .i64 t.kind),.d (.st t.text),.d (.int .i64 t.num),.d (.int .i64 t.pos),.os 0 5 ds.length]:=(rfl)
def bfQ (T:List Tok)(deep:Int)(Kr:LV->Bx->Ar1->Prop)(c p:Int):Prop:=∀t ds i,t.kids.length=3->qx7 ds t.kids->(∃ts',At T i ts')->Kr (brV t ds) (put 1000 (rbx T i deep c p) nix) (some (5,100,ds))
def brQ (T:List Tok)(deep a:Int)(Kr:LV->Bx->Ar1->Prop):Lg.PR Tree->Prop
 |.ok (t,ts')=>∀i ds,t.kids.length=3->qx7 ds t.kids->At T i ts'->Kr (brV t ds) (put 1000 (rbx T i deep 0 a) nix) (some (5,100,ds))
 |.error (p,c)=>c≠0->bfQ T deep Kr c p
theorem brQ_bnd {α:Type}{T:List Tok}{deep a:Int}{Kr:LV->Bx->Ar1->Prop}{bad':α->Prop}{res':α->LV}{Kr':LV->Bx->Ar1->Prop}{x:Lg.PR α}{k:α->List Tok->Lg.PR Tree}(hK:brQ T deep a Kr (Lg.bnd x k))
  (herr:∀p c,c≠0->bfQ T deep Kr c p->∀y i ts',bad' y->At T i ts'->Kr' (res' y) (put 1000 (rbx T i deep c p) nix) none)
  (hok:∀v ts' i,x=.ok (v,ts')->brQ T deep a Kr (k v ts')->At T i ts'->Kr' (res' v) (put 1000 (rbx T i deep 0 a) nix) none):refQ T deep a bad' res' Kr' x:=by
 cases x with
 |error q=>exact fun hc y i hb ⟨ts',hA⟩=>herr q.1 q.2 hc (hK hc) y i ts' hb hA
 |ok q=>exact fun i hA=>hok q.1 q.2 i rfl hK hA
def rbranchS (deep:Int)(block:List Tok->Lg.PR Tree):Spec:=fun ys bx Kr _=>∃k at_ T i ts a,ys=[.bp 1000 0,.d (.int .i64 k),.d (.int .i64 at_)]/\bx 1000=some (rbx T i deep 0 a)/\At T i ts/\brQ T deep a Kr (Lg.zkx block k at_ ts)
theorem rbranch_OK (deep:Int)(block:List Tok->Lg.PR Tree)(hblock:OK Tryz.prog 107 (refPd deep (fun _=>True) (fun t=>.d (qzr t)) block [])):OK Tryz.prog 157 (rbranchS deep block):=by
 refine fn_OK' qzu (E:=EV) (sp:=spL [(110,(refP (fun t:Tree=>t.kids.length=2) (fun t=>.d (zja t)) Lg.fact [])),(107,(refPd deep (fun _=>True) (fun t=>.d (qzr t)) block []))]) qzt qzl (OKs.ok ⟨rfact_OK,⟨hblock,trivial⟩⟩) func157 rfl ntmps157 results157 call157 [1000] (some 21) ?_;rintro ys bx Kr Kp ⟨k,at_,T,i,ts,a,rfl,hb,hA,hK⟩
 refine⟨[(1000,rbx T i deep 0 a)],rfl,⟨by decide,hb,trivial⟩,by simp,?_⟩
 unfold Lg.zkx at hK;simp only[go_sem];refine⟨T,i,ts,deep,0,a,rfl,rfl,hA,.inl ⟨rfl,brQ_bnd hK (fun p' c hc hE v i' ts' hb' hA'=>?_) (fun v ts2 i2 e hK hA2=>?_)⟩⟩
 · simp only[go_sem]
   refine⟨T,i',ts',c,p',rfl,rfl,hA',.inr ⟨hc,fun w _=>?_⟩⟩
   have hv:v.kids.length=2:=hb'
   have hl:(qze v.kids).length=2:=by rw[qzn];exact hv
   simp only[hl,go_sem];have h:=hE (.node k v.text v.num at_ (v.kids++[w])) (qze v.kids++[exD w]) i' (by show(v.kids++[w]).length=3;rw[lC,hv];rfl) (qx7.snoc (D.les.refl _) (qzk w)) ⟨ts',hA'⟩;exact h
 · have hv:=zjg e
   have hl:(qze v.kids).length=2:=by rw[qzn];exact hv
   simp only[go_sem];refine⟨T,i2,ts2,0,a,rfl,rfl,hA2,.inl ⟨rfl,brQ_bnd hK (fun p' c hc hE w i' ts' hb' hA'=>?_) (fun w ts3 i3 e hK hA3=>?_)⟩⟩
   ·simp only[hl,go_sem];have h:=hE (.node k v.text v.num at_ (v.kids++[w])) (qze v.kids++[exD w]) i' (by show(v.kids++[w]).length=3;rw[lC,hv];rfl) (qx7.snoc (D.les.refl _) (qzk w)) ⟨ts',hA'⟩;exact h
   ·simp only[hl,go_sem];have h:=hK i3 (qze v.kids++[exD w]) (by show(v.kids++[w]).length=3;rw[lC,hv];rfl) (qx7.snoc (D.les.refl _) (qzk w)) hA3;exact h
theorem nil_beq (c:UInt8)(l:Bs):(([]:Bs)==c::l)=false:=rfl
theorem stmt_key {T:List Tok}{i:Nat}{ts:List Tok}(hA:At T i ts)(block:List Tok->Lg.PR Tree):Lg.stmt block ts=
 if (Lg.hd ts).kind==2 then
  if(Lg.hd ts).text==Lg.sIf then Lg.bnd (Lg.zkx block 15 (Lg.hd ts).pos ts.tail) fun n ts'=>
   if Lg.isT Lg.sElse ts' then Lg.bnd (block ts'.tail) fun b ts'=>.ok (n.withKids (n.kids++[b]),ts')
   else .ok (n.withKids (n.kids++[.node 9 [] 0 (Lg.hd ts).pos []]),ts')
  else if(Lg.hd ts).text==Lg.sWhile then Lg.zkx block 16 (Lg.hd ts).pos ts.tail
  else if(Lg.hd ts).text==Lg.sFree then Lg.bnd (Lg.name ts.tail) fun n ts'=>Lg.bnd (Lg.must Lg.sSemi ts') fun _ ts'=>.ok ((n.withKind 12).withPos (Lg.hd ts).pos,ts')
  else if(Lg.hd ts).text==Lg.sLock then Lg.bnd (Lg.nameAt 13 ts.tail) fun n ts'=>Lg.bnd (Lg.must Lg.sSemi ts') fun _ ts'=>.ok (n.withPos (Lg.hd ts).pos,ts')
  else if(Lg.hd ts).text==Lg.sUnlock then Lg.bnd (Lg.nameAt 14 ts.tail) fun n ts'=>Lg.bnd (Lg.must Lg.sSemi ts') fun _ ts'=>.ok (n.withPos (Lg.hd ts).pos,ts')
  else if(Lg.hd ts).text==Lg.sReturn then
   if Lg.isT Lg.sSemi ts.tail then Lg.bnd (Lg.must Lg.sSemi ts.tail) fun _ ts'=>.ok (.node 17 [] 0 (Lg.hd ts).pos [],ts')
   else Lg.bnd (Lg.term ts.tail) fun x ts'=>Lg.bnd (Lg.must Lg.sSemi ts') fun _ ts'=>.ok (.node 17 [] 0 (Lg.hd ts).pos [x],ts')
  else if(Lg.hd ts).text==Lg.sAbort then Lg.bnd (Lg.must Lg.sSemi ts.tail) fun _ ts'=>.ok (.node 18 [] 0 (Lg.hd ts).pos [],ts')
  else if(Lg.hd ts).text==Lg.sFork then
   Lg.bnd (Lg.name ts.tail) fun n ts'=>Lg.bnd (Lg.args ts') fun xs ts'=>Lg.bnd (Lg.must Lg.sSemi ts') fun _ ts'=>.ok (.node 19 n.text 0 (Lg.hd ts).pos xs,ts')
  else Lg.bnd (rnamed ts) fun n ts'=>Lg.bnd (Lg.must Lg.sSemi ts') fun _ ts'=>.ok (n,ts')
 else Lg.bnd (rnamed ts) fun n ts'=>Lg.bnd (Lg.must Lg.sSemi ts') fun _ ts'=>.ok (n,ts'):=by
 unfold Lg.stmt Lg.zjh rnamed;rw[hA.key (s:=Lg.sFree) (by decide),hA.key (s:=Lg.sLock) (by decide),hA.key (s:=Lg.sUnlock) (by decide),hA.key (s:=Lg.sIf) (by decide),hA.key (s:=Lg.sWhile) (by decide),hA.key (s:=Lg.sReturn) (by decide),hA.key (s:=Lg.sAbort) (by decide),hA.key (s:=Lg.sFork) (by decide)];rw[bnd3]
 cases h2:(Lg.hd ts).kind==2 with
 |false=>simp
 |true=>
  simp only[Bool.true_and,if_true]
  generalize(Lg.hd ts).text=x
  by_cases h1:x=Lg.sIf
  ·subst h1;rfl
  by_cases h2:x=Lg.sWhile
  ·subst h2;rfl
  by_cases h3:x=Lg.sFree
  ·subst h3;rfl
  by_cases h4:x=Lg.sLock
  ·subst h4;rfl
  by_cases h5:x=Lg.sUnlock
  ·subst h5;rfl
  by_cases h6:x=Lg.sReturn
  ·subst h6;rfl
  by_cases h7:x=Lg.sAbort
  ·subst h7;rfl
  by_cases h8:x=Lg.sFork
  ·subst h8;rfl
  simp only[beq_iff_eq,h1,h2,h3,h4,h5,h6,h7,h8,if_false]
theorem refQ_brQ {β:Type}{T:List Tok}{deep a:Int}{bad:β->Prop}{res:β->LV}{Kr Kr':LV->Bx->Ar1->Prop}{x:Lg.PR Tree}{k:Tree->List Tok->Lg.PR β}(hK:refQ T deep a bad res Kr (Lg.bnd x k))
  (herr:∀p c,c≠0->flQ T deep bad res Kr c p->∀t ds i ts',t.kids.length=3->qx7 ds t.kids->At T i ts'->Kr' (brV t ds) (put 1000 (rbx T i deep c p) nix) (some (5,100,ds)))
  (hok:∀t ts' i ds,x=.ok (t,ts')->refQ T deep a bad res Kr (k t ts')->t.kids.length=3->qx7 ds t.kids->At T i ts'->Kr' (brV t ds) (put 1000 (rbx T i deep 0 a) nix) (some (5,100,ds))):brQ T deep a Kr' x:=by
 cases x with
 |error q=>exact fun hc t ds i h3 hS ⟨ts',hA⟩=>herr q.1 q.2 hc (hK hc) t ds i ts' h3 hS hA
 |ok q=>exact fun i ds h3 hS hA=>hok q.1 q.2 i ds rfl hK h3 hS hA
theorem name_num3 {ts ts':List Tok}{w:Tree}(h:Lg.name ts=.ok (w,ts')):w.num=0:=by
 obtain⟨t,l,_,h⟩:=Lg.qzs h;cases h;rfl
def rstmtS (deep:Int)(block:List Tok->Lg.PR Tree):Spec:=fun ys bx Kr _=>∃T i ts a,ys=[.bp 1000 0]/\bx 1000=some (rbx T i deep 0 a)/\At T i ts/\refQ T deep a (fun _=>True) (fun t=>.d (qzr t)) Kr (Lg.stmt block ts)
abbrev trQ' (T:List Tok)(deep a:Int)(Kr:LV->Bx->Ar1->Prop)(x:Lg.PR Tree):Prop:=refQ T deep a (fun _=>True) (fun t=>.d (qzr t)) Kr x
theorem rstmt_OK (deep:Int)(block:List Tok->Lg.PR Tree)(hblock:OK Tryz.prog 107 (refPd deep (fun _=>True) (fun t=>.d (qzr t)) block [])):OK Tryz.prog 141 (rstmtS deep block):=by
 refine fn_OK' qzu (E:=EV) (sp:=spL [(157,(rbranchS deep block)),(52,rhas),(107,(refPd deep (fun _=>True) (fun t=>.d (qzr t)) block [])),(104,(refP (fun _=>True) (fun t=>.d (qx8 t)) Lg.name [])),(54,zq6),(158,(refP (· =0) (fun v:Int=>.d (.int .i64 v)) (Lg.zzr 1) [])),(103,ris),(142,(refP (fun _=>True) (fun t=>.d (qx8 t)) Lg.term [])),(159,(refP (fun _=>True) (fun xs=>.d (.sl 5 (qze xs) false)) Lg.args [])),(160,(refP (fun _=>True) (fun t=>.d (qzr t)) rnamed []))]) qzt qzl (OKs.ok ⟨(rbranch_OK deep block hblock),⟨qxp,⟨hblock,⟨qjq,⟨qx1,⟨qwk,⟨zxu,⟨zzo,⟨zvk,⟨rnamed_OK,trivial⟩⟩⟩⟩⟩⟩⟩⟩⟩⟩) func141 rfl ntmps141 results141 call141 [1000] none ?_;rintro ys bx Kr Kp ⟨T,i,ts,a,rfl,hb,hA,hK⟩
 refine⟨[(1000,rbx T i deep 0 a)],rfl,⟨by decide,hb,trivial⟩,by simp,?_⟩
 rw[stmt_key hA]at hK;have hT:=hA.2.2.1;have hl:=hA.lt;simp only[rbx,lE,lA,hA.i0,hA.i1,hA.get,tokD,List.take_length,go_sem];refine qz5 ?_;simp only[rbx,lE,lA,hA.i0,hA.i1,hA.get,tokD,List.take_length,go_sem];refine qz5 ?_;simp only[rbx,lE,lA,hA.i0,hA.i1,hA.get,tokD,List.take_length,go_sem]
 refine⟨fun h2=>?_,fun h2=>?_⟩
 · rw[if_pos h2]at hK;have hA1:=hA.next (by have:=eq_of_beq h2;omega);refine qz5 ?_;simp only[rbx,lE,lA,hA.i0,hA.i1,hA.get,tokD,List.take_length,go_sem]
   refine⟨fun h=>?_,fun h=>?_⟩
   · rw[if_pos (show((Lg.hd ts).text==Lg.sIf)=true from h)]at hK
     refine⟨by omega,15,(Lg.hd ts).pos,T,i+1,ts.tail,a,rfl,rfl,hA1,refQ_brQ hK (fun p' c hc hE t ds i' ts' h3 hS hA'=>?_) (fun t ts2 i2 ds e hK h3 hS hA2=>?_)⟩
     · have hl:=hS.len;simp only[go_sem]
       (refine⟨T,i',ts',deep,c,p',_,rfl,rfl,hA',.inr ⟨hc,?_⟩⟩;simp only[go_sem])
       refine⟨by omega,by omega,by simp,?_⟩
       exact⟨_,qzb (qzc (qzo (hS.snoc (t:=.node 9 [] 0 (Lg.hd ts).pos []) (qzc (.nil _ _))))),hE (.node t.kind t.text t.num t.pos (t.kids++[Tree.node 9 [] 0 (Lg.hd ts).pos []])) i' trivial ⟨ts',hA'⟩⟩
     · have hl:=hS.len;obtain⟨k,x,m,q,ks⟩:=t;simp only[go_sem]
       refine⟨T,i2,ts2,deep,0,a,Lg.sElse,rfl,rfl,hA2,.inl ⟨rfl,fun h=>?_,fun h=>?_⟩⟩
       · rw[if_pos h]at hK;simp only[go_sem];refine⟨T,i2+1,ts2.tail,0,a,rfl,rfl,hA2.isT h,.inl ⟨rfl,qzf hK (fun p' c hc hE w i' ts' hb' hA'=>?_) (fun w ts3 i3 e hK hA3=>?_)⟩⟩
         · simp only[go_sem]
           refine⟨by simp only[Tree.kids]at*;omega,by simp only[Tree.kids]at*;omega,by simp,?_⟩
           exact⟨_,qzb (qzc (qzo (hS.snoc (qzk w)))),hE (.node k x m q (ks++[w])) i' trivial ⟨ts',hA'⟩⟩
         · simp only[go_sem]
           refine⟨by simp only[Tree.kids]at*;omega,by simp only[Tree.kids]at*;omega,by simp,?_⟩
           exact⟨_,qzb (qzc (qzo (hS.snoc (qzk w)))),hK i3 hA3⟩
       · rw[if_neg (qzg h)]at hK;simp only[go_sem]
         refine⟨by simp only[Tree.kids]at*;omega,by simp only[Tree.kids]at*;omega,by simp,?_⟩
         exact⟨_,qzb (qzc (qzo (hS.snoc (t:=.node 9 [] 0 (Lg.hd ts).pos []) (qzc (.nil _ _))))),hK i2 hA2⟩
   · rw [if_neg (by rw[show((Lg.hd ts).text==Lg.sIf)=false from h];decide)]at hK
     refine⟨fun h=>?_,fun h=>?_⟩
     · rw[if_pos (show((Lg.hd ts).text==Lg.sWhile)=true from h)]at hK;rw[zjn (Lg.zkx _ _ _ _)]at hK
       refine⟨by omega,16,(Lg.hd ts).pos,T,i+1,ts.tail,a,rfl,rfl,hA1,refQ_brQ hK (fun p' c hc hE t ds i' ts' h3 hS hA'=>?_) (fun t ts2 i2 ds e hK h3 hS hA2=>?_)⟩
       ·simp only[go_sem];exact⟨_,qzb (qzc (qzo hS)),hE (.node t.kind t.text t.num t.pos t.kids) i' trivial ⟨ts',hA'⟩⟩
       ·obtain⟨k,x,m,q,ks⟩:=t;simp only[go_sem];exact⟨_,qzb (qzc (qzo hS)),hK i2 hA2⟩
     · rw [if_neg (by rw[show((Lg.hd ts).text==Lg.sWhile)=false from h];decide)]at hK
       refine⟨fun h=>?_,fun h=>?_⟩
       · rw[if_pos (show((Lg.hd ts).text==Lg.sFree)=true from h)]at hK
         refine⟨by omega,?_⟩
         refine⟨T,i+1,ts.tail,deep,0,a,rfl,rfl,hA1,.inl ⟨rfl,qzf hK (fun p' c hc hE v i' ts' hb' hA'=>?_) (fun v ts2 i2 e hK hA2=>?_)⟩⟩
         · simp only[go_sem]
           (refine⟨_,T,i',ts',deep,c,p',rfl,rfl,hA',.inr ⟨hc,fun _ _=>?_⟩⟩;simp only[go_sem])
           exact⟨_,qzb (qzc (.nil _ _)),hE (.node 12 v.text 0 (Lg.hd ts).pos []) i' trivial ⟨ts',hA'⟩⟩
         · have hv:=qqm e;have hv2:=name_num3 e;obtain⟨k,t,m,p,ks⟩:=v;cases hv;cases hv2;simp only[go_sem];refine⟨_,T,i2,ts2,deep,0,a,rfl,rfl,hA2,.inl ⟨rfl,qzf hK (fun p' c hc hE _ i' ts' hb' hA'=>?_) (fun _ ts3 i3 e hK hA3=>?_)⟩⟩
           ·simp only[go_sem];exact⟨_,qzb (qzc (.nil _ _)),hE (.node 12 t 0 (Lg.hd ts).pos []) i' trivial ⟨ts',hA'⟩⟩
           ·simp only[go_sem];exact⟨_,qzb (qzc (.nil _ _)),hK i3 hA3⟩
       · rw [if_neg (by rw[show((Lg.hd ts).text==Lg.sFree)=false from h];decide)]at hK
         refine⟨fun h=>?_,fun h=>?_⟩
         · rw[if_pos (show((Lg.hd ts).text==Lg.sLock)=true from h)]at hK
           have hul:((Lg.hd ts).text==[117,110,108,111,99,107])=false:=by rw[eq_of_beq h];decide
           refine⟨fun _=>?_,fun h'=>absurd (h.symm.trans h') (by decide)⟩
           refine⟨by omega,?_⟩
           unfold Lg.nameAt at hK;simp only[bnd3]at hK;refine⟨T,i+1,ts.tail,deep,0,a,rfl,rfl,hA1,.inl ⟨rfl,qzf hK (fun p' c hc hE v i' ts' hb' hA'=>?_) (fun v ts2 i2 e hK hA2=>?_)⟩⟩
           · simp only[hul,go_sem]
             (refine⟨_,T,i',ts',deep,c,p',rfl,rfl,hA',.inr ⟨hc,fun _ _=>?_⟩⟩;simp only[go_sem])
             (refine⟨T,i',ts',deep,c,p',rfl,rfl,hA',.inr ⟨hc,fun w hy_w=>?_⟩⟩;simp only[go_sem])
             (refine⟨_,T,i',ts',deep,c,p',rfl,rfl,hA',.inr ⟨hc,fun _ _=>?_⟩⟩;simp only[go_sem])
             (refine⟨_,T,i',ts',deep,c,p',rfl,rfl,hA',.inr ⟨hc,fun _ _=>?_⟩⟩;simp only[go_sem])
             exact⟨_,qzb (qzc (.nil _ _)),hE (.node 13 v.text w (Lg.hd ts).pos []) i' trivial ⟨ts',hA'⟩⟩
           · have hv:=qqm e;have hv2:=name_num3 e;obtain⟨k,t,m,p,ks⟩:=v;cases hv;cases hv2;simp only[hul,go_sem];refine⟨_,T,i2,ts2,deep,0,a,rfl,rfl,hA2,.inl ⟨rfl,qzf hK (fun p' c hc hE _ i' ts' hb' hA'=>?_) (fun _ ts3 i3 e hK hA3=>?_)⟩⟩
             · simp only[go_sem]
               (refine⟨T,i',ts',deep,c,p',rfl,rfl,hA',.inr ⟨hc,fun w hy_w=>?_⟩⟩;simp only[go_sem])
               (refine⟨_,T,i',ts',deep,c,p',rfl,rfl,hA',.inr ⟨hc,fun _ _=>?_⟩⟩;simp only[go_sem])
               (refine⟨_,T,i',ts',deep,c,p',rfl,rfl,hA',.inr ⟨hc,fun _ _=>?_⟩⟩;simp only[go_sem])
               exact⟨_,qzb (qzc (.nil _ _)),hE (.node 13 t w (Lg.hd ts).pos []) i' trivial ⟨ts',hA'⟩⟩
             · simp only[go_sem];refine⟨T,i3,ts3,deep,0,a,rfl,rfl,hA3,.inl ⟨rfl,qzf hK (fun p' c hc hE w i' ts' hb' hA'=>?_) (fun w ts4 i4 e hK hA4=>?_)⟩⟩
               · simp only[go_sem]
                 (refine⟨_,T,i',ts',deep,c,p',rfl,rfl,hA',.inr ⟨hc,fun _ _=>?_⟩⟩;simp only[go_sem])
                 (refine⟨_,T,i',ts',deep,c,p',rfl,rfl,hA',.inr ⟨hc,fun _ _=>?_⟩⟩;simp only[go_sem])
                 exact⟨_,qzb (qzc (.nil _ _)),hE (.node 13 t w (Lg.hd ts).pos []) i' trivial ⟨ts',hA'⟩⟩
               · simp only[go_sem];refine⟨_,T,i4,ts4,deep,0,a,rfl,rfl,hA4,.inl ⟨rfl,qzf hK (fun p' c hc hE _ i' ts' hb' hA'=>?_) (fun _ ts5 i5 e hK hA5=>?_)⟩⟩
                 · simp only[go_sem]
                   (refine⟨_,T,i',ts',deep,c,p',rfl,rfl,hA',.inr ⟨hc,fun _ _=>?_⟩⟩;simp only[go_sem])
                   exact⟨_,qzb (qzc (.nil _ _)),hE (.node 13 t w (Lg.hd ts).pos []) i' trivial ⟨ts',hA'⟩⟩
                 · simp only[go_sem];refine⟨_,T,i5,ts5,deep,0,a,rfl,rfl,hA5,.inl ⟨rfl,qzf hK (fun p' c hc hE _ i' ts' hb' hA'=>?_) (fun _ ts6 i6 e hK hA6=>?_)⟩⟩
                   ·simp only[go_sem];exact⟨_,qzb (qzc (.nil _ _)),hE (.node 13 t w (Lg.hd ts).pos []) i' trivial ⟨ts',hA'⟩⟩
                   ·simp only[go_sem];exact⟨_,qzb (qzc (.nil _ _)),hK i6 hA6⟩
         · rw [if_neg (by rw[show((Lg.hd ts).text==Lg.sLock)=false from h];decide)]at hK
           refine⟨fun h=>?_,fun h=>?_⟩
           · rw[if_pos (show((Lg.hd ts).text==Lg.sUnlock)=true from h)]at hK;have hul:((Lg.hd ts).text==[117,110,108,111,99,107])=true:=h
             refine⟨by omega,?_⟩
             unfold Lg.nameAt at hK;simp only[bnd3]at hK;refine⟨T,i+1,ts.tail,deep,0,a,rfl,rfl,hA1,.inl ⟨rfl,qzf hK (fun p' c hc hE v i' ts' hb' hA'=>?_) (fun v ts2 i2 e hK hA2=>?_)⟩⟩
             · simp only[hul,go_sem]
               (refine⟨_,T,i',ts',deep,c,p',rfl,rfl,hA',.inr ⟨hc,fun _ _=>?_⟩⟩;simp only[go_sem])
               (refine⟨T,i',ts',deep,c,p',rfl,rfl,hA',.inr ⟨hc,fun w hy_w=>?_⟩⟩;simp only[go_sem])
               (refine⟨_,T,i',ts',deep,c,p',rfl,rfl,hA',.inr ⟨hc,fun _ _=>?_⟩⟩;simp only[go_sem])
               (refine⟨_,T,i',ts',deep,c,p',rfl,rfl,hA',.inr ⟨hc,fun _ _=>?_⟩⟩;simp only[go_sem])
               exact⟨_,qzb (qzc (.nil _ _)),hE (.node 14 v.text w (Lg.hd ts).pos []) i' trivial ⟨ts',hA'⟩⟩
             · have hv:=qqm e;have hv2:=name_num3 e;obtain⟨k,t,m,p,ks⟩:=v;cases hv;cases hv2;simp only[hul,go_sem];refine⟨_,T,i2,ts2,deep,0,a,rfl,rfl,hA2,.inl ⟨rfl,qzf hK (fun p' c hc hE _ i' ts' hb' hA'=>?_) (fun _ ts3 i3 e hK hA3=>?_)⟩⟩
               · simp only[go_sem]
                 (refine⟨T,i',ts',deep,c,p',rfl,rfl,hA',.inr ⟨hc,fun w hy_w=>?_⟩⟩;simp only[go_sem])
                 (refine⟨_,T,i',ts',deep,c,p',rfl,rfl,hA',.inr ⟨hc,fun _ _=>?_⟩⟩;simp only[go_sem])
                 (refine⟨_,T,i',ts',deep,c,p',rfl,rfl,hA',.inr ⟨hc,fun _ _=>?_⟩⟩;simp only[go_sem])
                 exact⟨_,qzb (qzc (.nil _ _)),hE (.node 14 t w (Lg.hd ts).pos []) i' trivial ⟨ts',hA'⟩⟩
               · simp only[go_sem];refine⟨T,i3,ts3,deep,0,a,rfl,rfl,hA3,.inl ⟨rfl,qzf hK (fun p' c hc hE w i' ts' hb' hA'=>?_) (fun w ts4 i4 e hK hA4=>?_)⟩⟩
                 · simp only[go_sem]
                   (refine⟨_,T,i',ts',deep,c,p',rfl,rfl,hA',.inr ⟨hc,fun _ _=>?_⟩⟩;simp only[go_sem])
                   (refine⟨_,T,i',ts',deep,c,p',rfl,rfl,hA',.inr ⟨hc,fun _ _=>?_⟩⟩;simp only[go_sem])
                   exact⟨_,qzb (qzc (.nil _ _)),hE (.node 14 t w (Lg.hd ts).pos []) i' trivial ⟨ts',hA'⟩⟩
                 · simp only[go_sem];refine⟨_,T,i4,ts4,deep,0,a,rfl,rfl,hA4,.inl ⟨rfl,qzf hK (fun p' c hc hE _ i' ts' hb' hA'=>?_) (fun _ ts5 i5 e hK hA5=>?_)⟩⟩
                   · simp only[go_sem]
                     (refine⟨_,T,i',ts',deep,c,p',rfl,rfl,hA',.inr ⟨hc,fun _ _=>?_⟩⟩;simp only[go_sem])
                     exact⟨_,qzb (qzc (.nil _ _)),hE (.node 14 t w (Lg.hd ts).pos []) i' trivial ⟨ts',hA'⟩⟩
                   · simp only[go_sem];refine⟨_,T,i5,ts5,deep,0,a,rfl,rfl,hA5,.inl ⟨rfl,qzf hK (fun p' c hc hE _ i' ts' hb' hA'=>?_) (fun _ ts6 i6 e hK hA6=>?_)⟩⟩
                     ·simp only[go_sem];exact⟨_,qzb (qzc (.nil _ _)),hE (.node 14 t w (Lg.hd ts).pos []) i' trivial ⟨ts',hA'⟩⟩
                     ·simp only[go_sem];exact⟨_,qzb (qzc (.nil _ _)),hK i6 hA6⟩
           · rw[if_neg (by rw[show((Lg.hd ts).text==Lg.sUnlock)=false from h];decide)]at hK
             refine⟨fun h=>?_,fun h=>?_⟩
             · rw[if_pos (show((Lg.hd ts).text==Lg.sReturn)=true from h)]at hK
               refine⟨by omega,?_⟩
               refine⟨T,i+1,ts.tail,deep,0,a,Lg.sSemi,rfl,rfl,hA1,.inl ⟨rfl,?_⟩⟩
               cases hs:Lg.isT Lg.sSemi ts.tail with
               |true=>
                rw[if_pos hs]at hK;simp only[go_sem];refine⟨_,T,i+1,ts.tail,deep,0,a,rfl,rfl,hA1,.inl ⟨rfl,qzf hK (fun p' c hc hE _ i' ts' hb' hA'=>?_) (fun _ ts2 i2 e hK hA2=>?_)⟩⟩
                ·simp only[go_sem];exact⟨_,qzb (qzc (.nil _ _)),hE (.node 17 [] 0 (Lg.hd ts).pos []) i' trivial ⟨ts',hA'⟩⟩
                ·simp only[go_sem];exact⟨_,qzb (qzc (.nil _ _)),hK i2 hA2⟩
               |false=>
                rw[if_neg (qzg hs)]at hK;simp only[go_sem];refine⟨T,i+1,ts.tail,deep,0,a,rfl,rfl,hA1,.inl ⟨rfl,qzf hK (fun p' c hc hE v i' ts' hb' hA'=>?_) (fun v ts2 i2 e hK hA2=>?_)⟩⟩
                · simp only[go_sem]
                  (refine⟨_,T,i',ts',deep,c,p',rfl,rfl,hA',.inr ⟨hc,fun _ _=>?_⟩⟩;simp only[go_sem])
                  exact⟨_,qzb (qzc (qzo (ts:=[qqj v]) (.cons (qqd v) .nil))),hE (.node 17 [] 0 (Lg.hd ts).pos [qqj v]) i' trivial ⟨ts',hA'⟩⟩
                · have hv:=qxx e;simp only[go_sem];refine⟨_,T,i2,ts2,deep,0,a,rfl,rfl,hA2,.inl ⟨rfl,qzf hK (fun p' c hc hE _ i' ts' hb' hA'=>?_) (fun _ ts3 i3 e hK hA3=>?_)⟩⟩
                  ·simp only[go_sem];exact⟨_,qzb (qzc (qzo (ts:=[v]) (.cons (qxe hv) .nil))),hE (.node 17 [] 0 (Lg.hd ts).pos [v]) i' trivial ⟨ts',hA'⟩⟩
                  ·simp only[go_sem];exact⟨_,qzb (qzc (qzo (ts:=[v]) (.cons (qxe hv) .nil))),hK i3 hA3⟩
             · rw[if_neg (by rw[show((Lg.hd ts).text==Lg.sReturn)=false from h];decide)]at hK
               refine⟨fun h=>?_,fun h=>?_⟩
               · rw[if_pos (show((Lg.hd ts).text==Lg.sAbort)=true from h)]at hK
                 refine⟨by omega,?_⟩
                 refine⟨_,T,i+1,ts.tail,deep,0,a,rfl,rfl,hA1,.inl ⟨rfl,qzf hK (fun p' c hc hE _ i' ts' hb' hA'=>?_) (fun _ ts2 i2 e hK hA2=>?_)⟩⟩
                 ·simp only[go_sem];exact⟨_,qzb (qzc (.nil _ _)),hE (.node 18 [] 0 (Lg.hd ts).pos []) i' trivial ⟨ts',hA'⟩⟩
                 ·simp only[go_sem];exact⟨_,qzb (qzc (.nil _ _)),hK i2 hA2⟩
               · rw[if_neg (by rw[show((Lg.hd ts).text==Lg.sAbort)=false from h];decide)]at hK
                 refine⟨fun h=>?_,fun h=>?_⟩
                 · rw[if_pos (show((Lg.hd ts).text==Lg.sFork)=true from h)]at hK
                   refine⟨by omega,?_⟩
                   refine⟨T,i+1,ts.tail,deep,0,a,rfl,rfl,hA1,.inl ⟨rfl,qzf hK (fun p' c hc hE v i' ts' hb' hA'=>?_) (fun v ts2 i2 e hK hA2=>?_)⟩⟩
                   · simp only[go_sem]
                     (refine⟨T,i',ts',deep,c,p',rfl,rfl,hA',.inr ⟨hc,fun xs hy_xs=>?_⟩⟩;simp only[go_sem])
                     (refine⟨_,T,i',ts',deep,c,p',rfl,rfl,hA',.inr ⟨hc,fun _ _=>?_⟩⟩;simp only[go_sem])
                     exact⟨_,qzb (qzc (.rfl _)),hE (.node 19 v.text 0 (Lg.hd ts).pos xs) i' trivial ⟨ts',hA'⟩⟩
                   · simp only[go_sem];refine⟨T,i2,ts2,deep,0,a,rfl,rfl,hA2,.inl ⟨rfl,qzf hK (fun p' c hc hE xs i' ts' hb' hA'=>?_) (fun xs ts3 i3 e hK hA3=>?_)⟩⟩
                     · simp only[go_sem]
                       (refine⟨_,T,i',ts',deep,c,p',rfl,rfl,hA',.inr ⟨hc,fun _ _=>?_⟩⟩;simp only[go_sem])
                       exact⟨_,qzb (qzc (.rfl _)),hE (.node 19 v.text 0 (Lg.hd ts).pos xs) i' trivial ⟨ts',hA'⟩⟩
                     · simp only[go_sem];refine⟨_,T,i3,ts3,deep,0,a,rfl,rfl,hA3,.inl ⟨rfl,qzf hK (fun p' c hc hE _ i' ts' hb' hA'=>?_) (fun _ ts4 i4 e hK hA4=>?_)⟩⟩
                       ·simp only[go_sem];exact⟨_,qzb (qzc (.rfl _)),hE (.node 19 v.text 0 (Lg.hd ts).pos xs) i' trivial ⟨ts',hA'⟩⟩
                       ·simp only[go_sem];exact⟨_,qzb (qzc (.rfl _)),hK i4 hA4⟩
                 · rw[if_neg (by rw[show((Lg.hd ts).text==Lg.sFork)=false from h];decide)]at hK;refine⟨T,i,ts,deep,0,a,rfl,rfl,hA,.inl ⟨rfl,qzf hK (fun p' c hc hE v i' ts' hb' hA'=>?_) (fun v ts1 i1 e hK hA1=>?_)⟩⟩
                   · simp only[go_sem]
                     (refine⟨_,T,i',ts',deep,c,p',rfl,rfl,hA',.inr ⟨hc,fun _ _=>?_⟩⟩;simp only[go_sem])
                     exact⟨_,qzb (qzk v),hE v i' trivial ⟨ts',hA'⟩⟩
                   · simp only[go_sem];refine⟨_,T,i1,ts1,deep,0,a,rfl,rfl,hA1,.inl ⟨rfl,qzf hK (fun p' c hc hE _ i' ts' hb' hA'=>?_) (fun _ ts2 i2 e hK hA2=>?_)⟩⟩
                     ·simp only[go_sem];exact⟨_,qzb (qzk v),hE v i' trivial ⟨ts',hA'⟩⟩
                     ·simp only[go_sem];exact⟨_,qzb (qzk v),hK i2 hA2⟩
 · rw[if_neg (by rw[h2];decide)]at hK;simp only[nil_beq,bne_self_eq_false,beq_self_eq_true,Bool.false_eq_true,Bool.true_eq_false,false_implies,true_implies,true_and,and_true,eq_self,go_sem];refine⟨T,i,ts,deep,0,a,rfl,rfl,hA,.inl ⟨rfl,qzf hK (fun p' c hc hE v i' ts' hb' hA'=>?_) (fun v ts1 i1 e hK hA1=>?_)⟩⟩
   · simp only[go_sem]
     (refine⟨_,T,i',ts',deep,c,p',rfl,rfl,hA',.inr ⟨hc,fun _ _=>?_⟩⟩;simp only[go_sem])
     exact⟨_,qzb (qzk v),hE v i' trivial ⟨ts',hA'⟩⟩
   · simp only[go_sem];refine⟨_,T,i1,ts1,deep,0,a,rfl,rfl,hA1,.inl ⟨rfl,qzf hK (fun p' c hc hE _ i' ts' hb' hA'=>?_) (fun _ ts2 i2 e hK hA2=>?_)⟩⟩
     ·simp only[go_sem];exact⟨_,qzb (qzk v),hE v i' trivial ⟨ts',hA'⟩⟩
     ·simp only[go_sem];exact⟨_,qzb (qzk v),hK i2 hA2⟩
theorem refQ_bndD {α β:Type}{T:List Tok}{deep deep2 a:Int}{bad:β->Prop}{res:β->LV}{Kr:LV->Bx->Ar1->Prop}{bad':α->Prop}{res':α->LV}{Kr':LV->Bx->Ar1->Prop}{x:Lg.PR α}{k:α->List Tok->Lg.PR β}(hK:refQ T deep a bad res Kr (Lg.bnd x k))
  (herr:∀p c,c≠0->flQ T deep bad res Kr c p->∀y i ts',bad' y->At T i ts'->Kr' (res' y) (put 1000 (rbx T i deep2 c p) nix) none)
  (hok:∀v ts' i,x=.ok (v,ts')->refQ T deep a bad res Kr (k v ts')->At T i ts'->Kr' (res' v) (put 1000 (rbx T i deep2 0 a) nix) none):refQ T deep2 a bad' res' Kr' x:=by
 cases x with
 |error q=>exact fun hc y i hb ⟨ts',hA⟩=>herr q.1 q.2 hc (hK hc) y i ts' hb hA
 |ok q=>exact fun i hA=>hok q.1 q.2 i rfl hK hA
theorem stmts_end {one:List Tok->Lg.PR Tree}{ts:List Tok}(h:Lg.isT Lg.sRcu ts=true):Lg.stmts one ts=.ok ([],ts.tail):=by
 rw[Lg.stmts,if_pos h]
theorem zj6 {one:List Tok->Lg.PR Tree}(he:∀ts x ts',one ts=.ok (x,ts')->ts'.length<ts.length){ts:List Tok}(h:Lg.isT Lg.sRcu ts=false):
  Lg.stmts one ts=Lg.bnd (one ts) fun x ts'=>Lg.bnd (Lg.stmts one ts') fun xs ts''=>.ok (x::xs,ts''):=by
 rw[Lg.stmts,if_neg (by rw[h];decide)]
 cases h1:one ts with
 |error q=>rfl
 |ok q=>
  obtain⟨x,ts'⟩:=q;have h2:=he _ _ _ h1
  show(if ts'.length<ts.length then _ else _)=_
  rw[if_pos h2];rfl
def bkLV (d:Nat):List D->LV
 |[]=>.d (.imm (.slice none 0 0))
 |_::l=>.os d 5 (l.length+1)
def bkAr (d:Nat):List D->Ar
 |[]=>nix
 |x::l=>put d (5,100,x::l) nix
abbrev qvm (T:List Tok)(deep:Int)(q:Int)(ds:List D)(i:Nat)(fl p:Int):S:=
 ⟨66,put 0 (.bp 1000 0) (put 2 (.bp 2 0) (put 3 (.bp 3 0) nix)),put 1000 (rbx T i deep fl p) (put 2 ⟨qvp,100⟩ (put 3 ⟨[.d (.int .i64 9),.d (.st []),.d (.int .i64 0),.d (.int .i64 q),bkLV 55 ds],100⟩ nix)),bkAr 55 ds⟩
inductive BlkQ where
 |go (ds:List D) (acc:List Tree) (i:Nat) (ts:List Tok)
 |bad (ds:List D) (acc:List Tree) (i:Nat) (c p:Int)
def blkM:BlkQ->Nat
 |.go _ _ _ ts=>ts.length+1
 |.bad _ _ _ _ _=>0
def blkOk (T:List Tok)(deep a:Int)(Kr:LV->Bx->Ar1->Prop)(q:Int)(one:List Tok->Lg.PR Tree):BlkQ->Prop
 |.go ds acc i ts=>At T i ts/\qx7 ds acc/\acc.length+ts.length<=2097152/\trQ' T deep a Kr (Lg.bnd (Lg.stmts one ts) fun xs ts'=>.ok (.node 9 [] 0 q (acc++xs),ts'))
 |.bad ds acc i c p=>c≠0/\(∃ts,At T i ts)/\qx7 ds acc/\flQ T deep (fun _=>True) (fun t=>.d (qzr t)) Kr c p
def blkF (T:List Tok)(deep a:Int)(q:Int):BlkQ->S
 |.go ds _ i _=>qvm T (deep+1) q ds i 0 a
 |.bad ds _ i c p=>qvm T (deep+1) q ds i c p
theorem qxg (deep:Int)(h0:0<=deep)(h8:deep<8)(n:Nat)(hblock:OK Tryz.prog 107 (zxv (deep+1) n)):OK Tryz.prog 107 (zxv deep (n+1)):=by
 refine fn_OK' qzu (E:=EV) (sp:=spL [(103,ris),(106,zzp),(54,zq6),(52,rhas),(141,(rstmtS (deep+1) (Lg.block n)))]) qzt qzl (OKs.ok ⟨zxu,⟨qkc,⟨qx1,⟨qxp,⟨(rstmt_OK (deep+1) (Lg.block n) hblock),trivial⟩⟩⟩⟩⟩) func107 rfl ntmps107 results107 call107 [1000] none ?_;rintro ys bx Kr Kp ⟨T,i,ts,fl,a,rfl,hb,hA,hK⟩
 refine⟨[(1000,rbx T i deep fl a)],rfl,⟨by decide,hb,trivial⟩,by simp,?_⟩
 have hd8:decide (8<=deep)=false:=decide_eq_false (by omega)
 have hdd:deep+1-1=deep:=by omega
 simp only[rbx,lE,lA,hA.i0,hA.i1,hA.get,tokD,List.take_length,go_sem];refine qqo [] [1000] [0,1,2,3,4,5,6,7,8,9,10] (wB 11 (wD 12 13 wZ) 12 (wD 11 13 wZ)) ⟨66,put 0 (.bp 1000 0) (put 2 (.bp 2 0) (put 3 (.bp 3 0) nix)),put 1000 (rbx T i deep fl a) (put 2 ⟨qvp,100⟩ (put 3 ⟨[.d (.int .i64 9),.d (.st []),.d (.int .i64 0),.d (.int .i64 (Lg.hd ts).pos),.d (.imm (.slice none 0 0))],100⟩ nix)),nix⟩ (by decide) ?_ ?_
 · simp only[rbx,lE,lA,hA.i0,hA.i1,hA.get,tokD,List.take_length,go_sem]
   repeat' apply And.intro
   all_goals exact zsub (sP3 qza) (sP3 qza) qza
 · rcases hK with⟨rfl,hK⟩|⟨hf,hK⟩
   · rw[Lg.block]at hK;simp only[go_sem];refine⟨T,i,ts,deep,0,a,Lg.sLcu,rfl,rfl,hA,.inl ⟨rfl,?_⟩⟩;simp only[rbx,hd8,go_sem]
     refine⟨fun h=>?_,fun h=>?_⟩
     · refine ⟨_,T,i,ts,deep,0,a,rfl,rfl,hA,.inl ⟨rfl,qzf hK (fun p' c hc hE _ i' ts' hb' hA'=>?_) (fun _ ts1 i1 e hK hA1=>?_)⟩⟩
       · have hc':(c==0)=false:=by simpa using hc
         simp only[rbx,go_sem]
         refine⟨by omega,?_⟩
         refine qzj (T:=Unit) (fun _=>qvm T (deep+1) (Lg.hd ts).pos [] i' c p') (fun _=>0) ()
          (zsub (sP3 qza) (sP3 qza) qza) ?_
         rintro⟨⟩;dsimp only[qvm,bkLV,bkAr];simp only[rbx,hc',hdd,go_sem]
         exact⟨by omega,_,qzb (qzc (.nil _ _)),hE (.node 9 [] 0 (Lg.hd ts).pos []) i' trivial ⟨ts',hA'⟩⟩
       · have b1:=hA1.2.1.2;simp only[rbx,go_sem]
         refine⟨by omega,?_⟩
         refine qzj (T:={q:BlkQ //blkOk T deep a Kr (Lg.hd ts).pos (Lg.stmt (Lg.block n)) q}) (fun q=>blkF T deep a (Lg.hd ts).pos q.val) (fun q=>blkM q.val) ⟨.go [] [] i1 ts1,hA1,.nil,by show 0+ts1.length<=2097152;omega,hK⟩
          (zsub (sP3 qza) (sP3 qza) qza) ?_
         rintro⟨q,hq⟩
         cases q with
         |go ds acc i2 ts2=>
          obtain⟨hA2,hS,hn,hK⟩:=hq
          cases ds with
          |nil=>
           dsimp only[blkF,qvm,bkLV,bkAr];have hl:=hS.len;simp only[rbx,go_sem]
           refine⟨T,i2,ts2,deep+1,0,a,Lg.sRcu,rfl,rfl,hA2,.inl ⟨rfl,fun h=>?_,fun h=>?_⟩⟩
           · rw[stmts_end h]at hK;simp only[rbx,hdd,go_sem];have hK2:=hK (i2+1) (hA2.isT h);dsimp only at hK2;rw[List.append_nil]at hK2
             exact⟨by omega,_,qzb (qzc (by cases acc with|nil=>exact .nil _ _|cons y l=>cases hS)),hK2⟩
           · rw[zj6 (Lg.stmt_eats (Lg.block_eats n)) h,bnd3]at hK;simp only[rbx,go_sem];refine⟨T,i2,ts2,a,rfl,rfl,hA2,refQ_bndD hK (fun p' c hc hE x i' ts' hb' hA'=>?_) (fun x ts3 i3 e hK hA3=>?_)⟩
             ·simp only[go_sem];exact⟨⟨.bad (([])++[exD x]) (acc++[x]) i' c p',hc,⟨ts',hA'⟩,hS.snoc (qzk x),hE⟩,zsub (sP3 qza) (sP3 qza) (sP1 qza),Nat.succ_pos _⟩
             · have h1:=Lg.stmt_eats (Lg.block_eats n) _ _ _ e;rw[bnd3]at hK;simp only[go_sem]
               refine⟨⟨.go (([])++[exD x]) (acc++[x]) i3 ts3,hA3,hS.snoc (qzk x),by rw[lC,List.length_singleton];omega,?_⟩,zsub (sP3 qza) (sP3 qza) (sP1 qza),by show ts3.length+1<ts2.length+1;omega⟩
               show trQ' T deep a Kr (Lg.bnd (Lg.stmts _ ts3) fun xs ts'=>.ok (.node 9 [] 0 (Lg.hd ts).pos ((acc++[x])++xs),ts'))
               simp only[List.append_assoc,List.singleton_append];exact hK
          |cons d ds=>
           dsimp only[blkF,qvm,bkLV,bkAr];have hl:=hS.len;simp only[rbx,go_sem]
           refine⟨T,i2,ts2,deep+1,0,a,Lg.sRcu,rfl,rfl,hA2,.inl ⟨rfl,fun h=>?_,fun h=>?_⟩⟩
           · rw[stmts_end h]at hK;simp only[rbx,hdd,go_sem];have hK2:=hK (i2+1) (hA2.isT h);dsimp only at hK2;rw[List.append_nil]at hK2
             exact⟨by omega,_,qzb (qzc (qzo hS)),hK2⟩
           · rw[zj6 (Lg.stmt_eats (Lg.block_eats n)) h,bnd3]at hK;simp only[rbx,go_sem];refine⟨T,i2,ts2,a,rfl,rfl,hA2,refQ_bndD hK (fun p' c hc hE x i' ts' hb' hA'=>?_) (fun x ts3 i3 e hK hA3=>?_)⟩
             · simp only[go_sem]
               refine⟨by simp only[lB]at hl;omega,by simp only[lB]at hl;omega,?_⟩
               exact⟨⟨.bad ((d::ds)++[exD x]) (acc++[x]) i' c p',hc,⟨ts',hA'⟩,hS.snoc (qzk x),hE⟩,zsub (sP3 qza) (sP2 (qzd (by simp[put,bkLV]) qza)) (sP1 qza),Nat.succ_pos _⟩
             · have h1:=Lg.stmt_eats (Lg.block_eats n) _ _ _ e;rw[bnd3]at hK;simp only[go_sem]
               refine⟨by simp only[lB]at hl;omega,by simp only[lB]at hl;omega,?_⟩
               refine⟨⟨.go ((d::ds)++[exD x]) (acc++[x]) i3 ts3,hA3,hS.snoc (qzk x),by rw[lC,List.length_singleton];omega,?_⟩,zsub (sP3 qza) (sP2 (qzd (by simp[put,bkLV]) qza)) (sP1 qza),by show ts3.length+1<ts2.length+1;omega⟩
               show trQ' T deep a Kr (Lg.bnd (Lg.stmts _ ts3) fun xs ts'=>.ok (.node 9 [] 0 (Lg.hd ts).pos ((acc++[x])++xs),ts'))
               simp only[List.append_assoc,List.singleton_append];exact hK
         |bad ds acc i2 c p'=>
          obtain⟨hc,⟨ts',hA'⟩,hS,hE⟩:=hq
          have hc':(c==0)=false:=by simpa using hc
          cases ds with
          |nil=>
           dsimp only[blkF,qvm,bkLV,bkAr];simp only[rbx,hc',hdd,go_sem]
           exact⟨by omega,_,qzb (qzc (by cases acc with|nil=>exact .nil _ _|cons y l=>cases hS)),hE (.node 9 [] 0 (Lg.hd ts).pos acc) i2 trivial ⟨ts',hA'⟩⟩
          |cons d ds=>
           dsimp only[blkF,qvm,bkLV,bkAr];simp only[rbx,hc',hdd,go_sem]
           exact⟨by omega,_,qzb (qzc (qzo hS)),hE (.node 9 [] 0 (Lg.hd ts).pos acc) i2 trivial ⟨ts',hA'⟩⟩
     · refine⟨_,T,i,ts,deep,0,a,rfl,rfl,hA,.inl ⟨rfl,qzf hK (fun p' c hc hE _ i' ts' hb' hA'=>?_) (fun _ ts1 i1 e hK hA1=>?_)⟩⟩
       · have hc':(c==0)=false:=by simpa using hc
         simp only[rbx,go_sem]
         refine⟨by omega,?_⟩
         refine qzj (T:=Unit) (fun _=>qvm T (deep+1) (Lg.hd ts).pos [] i' c p') (fun _=>0) ()
          (zsub (sP3 qza) (sP3 qza) qza) ?_
         rintro⟨⟩;dsimp only[qvm,bkLV,bkAr];simp only[rbx,hc',hdd,go_sem]
         exact⟨by omega,_,qzb (qzc (.nil _ _)),hE (.node 9 [] 0 (Lg.hd ts).pos []) i' trivial ⟨ts',hA'⟩⟩
       ·exfalso;have:Lg.must Lg.sLcu ts=.ok (_,ts1):=e;unfold Lg.must Lg.flt at this;rw[if_neg (qzg h)]at this;cases this
   · simp only[go_sem]
     (refine⟨T,i,ts,deep,fl,a,_,rfl,rfl,hA,.inr ⟨hf,?_⟩⟩;simp only[go_sem])
     (refine⟨_,T,i,ts,deep,fl,a,rfl,rfl,hA,.inr ⟨hf,fun _ _=>?_⟩⟩;simp only[go_sem])
     have hf':(fl==0)=false:=by simpa using hf
     simp only[rbx,hf',hdd,go_sem]
     refine⟨by omega,?_⟩
     refine qzj (T:=Unit) (fun _=>qvm T (deep+1) (Lg.hd ts).pos [] i fl a) (fun _=>0) ()
      (zsub (sP3 qza) (sP3 qza) qza) ?_
     rintro⟨⟩;dsimp only[qvm,bkLV,bkAr];simp only[rbx,hf',hdd,go_sem]
     exact⟨by omega,_,qzb (qzc (.nil _ _)),hK (.node 9 [] 0 (Lg.hd ts).pos []) trivial⟩
theorem rblock_zero:OK Tryz.prog 107 (zxv 8 0):=by
 refine fn_OK' qzu (E:=EV) (sp:=spL [(103,ris),(106,zzp),(54,zq6)]) qzt qzl (OKs.ok ⟨zxu,⟨qkc,⟨qx1,trivial⟩⟩⟩) func107 rfl ntmps107 results107 call107 [1000] none ?_;rintro ys bx Kr Kp ⟨T,i,ts,fl,a,rfl,hb,hA,hK⟩
 refine⟨[(1000,rbx T i 8 fl a)],rfl,⟨by decide,hb,trivial⟩,by simp,?_⟩
 simp only[rbx,lE,lA,hA.i0,hA.i1,hA.get,tokD,List.take_length,go_sem];refine qqo [] [1000] [0,1,2,3,4,5,6,7,8,9,10] (wB 11 (wD 12 13 wZ) 12 (wD 11 13 wZ)) ⟨66,put 0 (.bp 1000 0) (put 2 (.bp 2 0) (put 3 (.bp 3 0) nix)),put 1000 (rbx T i 8 fl a) (put 2 ⟨qvp,100⟩ (put 3 ⟨[.d (.int .i64 9),.d (.st []),.d (.int .i64 0),.d (.int .i64 (Lg.hd ts).pos),.d (.imm (.slice none 0 0))],100⟩ nix)),nix⟩ (by decide) ?_ ?_
 · simp only[rbx,lE,lA,hA.i0,hA.i1,hA.get,tokD,List.take_length,go_sem]
   repeat' apply And.intro
   all_goals exact zsub (sP3 qza) (sP3 qza) qza
 · rcases hK with⟨rfl,hK⟩|⟨hf,hK⟩
   · rw[Lg.block]at hK;simp only[go_sem];refine⟨T,i,ts,8,0,a,Lg.sLcu,rfl,rfl,hA,.inl ⟨rfl,?_⟩⟩;simp only[rbx,go_sem]
     refine⟨fun h=>?_,fun h=>?_⟩
     · rw[if_pos h]at hK
       refine⟨fun _=>?_,fun h'=>absurd h' (by decide)⟩
       refine⟨T,i,ts,8,0,a,21,rfl,rfl,hA,.inl ⟨rfl,?_⟩⟩;simp only[go_sem]
       refine⟨_,T,i,ts,8,21,(Lg.hd ts).pos,rfl,rfl,hA,.inr ⟨by decide,fun _ _=>?_⟩⟩
       simp only[rbx,go_sem]
       refine qzj (T:=Unit) (fun _=>qvm T 9 (Lg.hd ts).pos [] i 21 (Lg.hd ts).pos) (fun _=>0) ()
        (zsub (sP3 qza) (sP3 qza) qza) ?_
       rintro⟨⟩;dsimp only[qvm,bkLV,bkAr];simp only[rbx,go_sem];exact⟨_,qzb (qzc (.nil _ _)),hK (by decide) (.node 9 [] 0 (Lg.hd ts).pos []) i trivial ⟨ts,hA⟩⟩
     · rw[if_neg (qzg h)]at hK;refine⟨_,T,i,ts,8,0,a,rfl,rfl,hA,.inl ⟨rfl,?_⟩⟩
       have hm:Lg.must [123] ts=Lg.flt 20 ts:=by
        show Lg.must Lg.sLcu ts=_
        unfold Lg.must;rw[if_neg (qzg h)]
       rw[hm];intro hc y i' hy hA';simp only[rbx,go_sem]
       refine qzj (T:=Unit) (fun _=>qvm T 9 (Lg.hd ts).pos [] i' 20 (Lg.hd ts).pos) (fun _=>0) ()
        (zsub (sP3 qza) (sP3 qza) qza) ?_
       rintro⟨⟩;dsimp only[qvm,bkLV,bkAr];simp only[rbx,go_sem];exact⟨_,qzb (qzc (.nil _ _)),hK hc (.node 9 [] 0 (Lg.hd ts).pos []) i' trivial hA'⟩
   · simp only[go_sem];refine⟨T,i,ts,8,fl,a,_,rfl,rfl,hA,.inr ⟨hf,?_⟩⟩;simp only[go_sem]
     refine⟨_,T,i,ts,8,fl,a,rfl,rfl,hA,.inr ⟨hf,fun _ _=>?_⟩⟩
     have hf':(fl==0)=false:=by simpa using hf
     simp only[rbx,hf',go_sem]
     refine qzj (T:=Unit) (fun _=>qvm T 9 (Lg.hd ts).pos [] i fl a) (fun _=>0) ()
      (zsub (sP3 qza) (sP3 qza) qza) ?_
     rintro⟨⟩;dsimp only[qvm,bkLV,bkAr];simp only[rbx,hf',go_sem];exact⟨_,qzb (qzc (.nil _ _)),hK (.node 9 [] 0 (Lg.hd ts).pos []) trivial⟩
theorem rblock_OK:OK Tryz.prog 107 (zxv 0 8):=by
 have h1:=qxg 7 (by decide) (by decide) 0 rblock_zero;have h2:=qxg 6 (by decide) (by decide) 1 h1;have h3:=qxg 5 (by decide) (by decide) 2 h2;have h4:=qxg 4 (by decide) (by decide) 3 h3;have h5:=qxg 3 (by decide) (by decide) 4 h4;have h6:=qxg 2 (by decide) (by decide) 5 h5;have h7:=qxg 1 (by decide) (by decide) 6 h6;exact qxg 0 (by decide) (by decide) 7 h7
abbrev zeroC:List LV:=[.d (.int .i64 0),.d (.st []),.d (.int .i64 0),.d (.int .i64 0),.d (.imm (.slice none 0 0))]
theorem rmode_OK:OK Tryz.prog 105 (refP (fun _=>True) (fun t=>.d (qzr t)) Lg.mode []):=by
 refine fn_OK' qzu (E:=EV) (sp:=spL [(52,rhas),(54,zq6),(104,(refP (fun _=>True) (fun t=>.d (qx8 t)) Lg.name []))]) qzt qzl (OKs.ok ⟨qxp,⟨qx1,⟨qjq,trivial⟩⟩⟩) func105 rfl ntmps105 results105 call105 [1000] none ?_;rintro ys bx Kr Kp ⟨T,i,ts,deep,fl,a,rfl,hb,hA,hK⟩
 refine⟨[(1000,rbx T i deep fl a)],rfl,⟨by decide,hb,trivial⟩,by simp,?_⟩
 simp only[rbx,lE,lA,hA.i0,hA.i1,hA.get,tokD,List.take_length,go_sem];refine qqo [] [1000] [0,1,2,3,4,5,6,7,8,9,10,11,12,13,14,15,16,17,18,19,20,21] (wB 22 (wD 23 24 wZ) 23 (wD 22 24 wZ)) ⟨51,put 0 (.bp 1000 0) (put 2 (.bp 2 0) (put 3 (.bp 3 0) nix)),put 1000 (rbx T i deep fl a) (put 2 ⟨zeroC,100⟩ (put 3 ⟨[.d (.int .i64 8),.d (.st (Lg.hd ts).text),.d (.int .i64 0),.d (.int .i64 (Lg.hd ts).pos),.d (.imm (.slice none 0 0))],100⟩ nix)),nix⟩ (by decide) ?_ ?_
 · simp only[rbx,lE,lA,hA.i0,hA.i1,hA.get,tokD,List.take_length,go_sem]
   repeat' apply And.intro
   all_goals exact zsub (sP3 qza) (sP3 qza) qza
 · simp only[go_sem]
   rcases hK with⟨rfl,hK⟩|⟨hf,hK⟩
   · unfold Lg.mode at hK
     refine⟨T,i,ts,deep,0,a,Lg.sInt,rfl,rfl,hA,.inl ⟨rfl,fun h=>?_,fun h=>?_⟩⟩
     ·rw[if_pos h]at hK;simp only[go_sem];exact⟨_,qzb (qzc (.nil _ _)),hK _ (hA.isT h)⟩
     · rw[if_neg (qzg h)]at hK;simp only[go_sem]
       refine⟨T,i,ts,deep,0,a,Lg.sOwn,rfl,rfl,hA,.inl ⟨rfl,fun h=>?_,fun h=>?_⟩⟩
       · rw[if_pos h]at hK;simp only[go_sem];refine⟨T,i+1,ts.tail,deep,0,a,rfl,rfl,hA.isT h,.inl ⟨rfl,qzf hK (fun p' c hc hE k i' ts' hb' hA'=>?_) (fun k ts2 i2 e hK hA2=>?_)⟩⟩
         ·simp only[go_sem];exact⟨_,qzb (qzc (qzo (ts:=[qqj k]) (.cons (qqd k) .nil))),hE (.node 8 (Lg.hd ts).text 0 (Lg.hd ts).pos [qqj k]) i' trivial ⟨ts',hA'⟩⟩
         ·have hk:=qqm e;simp only[go_sem];exact⟨_,qzb (qzc (qzo (ts:=[k]) (.cons (qxe hk) .nil))),hK i2 hA2⟩
       · rw[if_neg (qzg h)]at hK;simp only[go_sem];refine⟨_,T,i,ts,deep,0,a,rfl,rfl,hA,.inl ⟨rfl,qzf hK (fun p' c hc hE _ i' ts' hb' hA'=>?_) (fun _ ts1 i1 e hK hA1=>?_)⟩⟩
         · simp only[go_sem]
           (refine⟨T,i',ts',deep,c,p',_,rfl,rfl,hA',.inr ⟨hc,?_⟩⟩;simp only[go_sem])
           (refine⟨T,i',ts',deep,c,p',rfl,rfl,hA',.inr ⟨hc,fun k hy_k=>?_⟩⟩;simp only[go_sem])
           exact⟨_,qzb (qzc (qzo (ts:=[qqj k]) (.cons (qqd k) .nil))),hE (.node 8 (Lg.hd ts).text 0 (Lg.hd ts).pos [qqj k]) i' trivial ⟨ts',hA'⟩⟩
         · simp only[go_sem]
           refine⟨T,i1,ts1,deep,0,a,Lg.sMut,rfl,rfl,hA1,.inl ⟨rfl,fun h=>?_,fun h=>?_⟩⟩
           · rw[if_pos h]at hK;simp only[go_sem];refine⟨T,i1+1,ts1.tail,deep,0,a,rfl,rfl,hA1.isT h,.inl ⟨rfl,qzf hK (fun p' c hc hE k i' ts' hb' hA'=>?_) (fun k ts2 i2 e hK hA2=>?_)⟩⟩
             ·simp only[go_sem];exact⟨_,qzb (qzc (qzo (ts:=[qqj k]) (.cons (qqd k) .nil))),hE (.node 8 [38,109,117,116] 0 (Lg.hd ts).pos [qqj k]) i' trivial ⟨ts',hA'⟩⟩
             ·have hk:=qqm e;simp only[go_sem];exact⟨_,qzb (qzc (qzo (ts:=[k]) (.cons (qxe hk) .nil))),hK i2 hA2⟩
           · rw[if_neg (qzg h)]at hK;simp only[go_sem];refine⟨T,i1,ts1,deep,0,a,rfl,rfl,hA1,.inl ⟨rfl,qzf hK (fun p' c hc hE k i' ts' hb' hA'=>?_) (fun k ts2 i2 e hK hA2=>?_)⟩⟩
             ·simp only[go_sem];exact⟨_,qzb (qzc (qzo (ts:=[qqj k]) (.cons (qqd k) .nil))),hE (.node 8 (Lg.hd ts).text 0 (Lg.hd ts).pos [qqj k]) i' trivial ⟨ts',hA'⟩⟩
             ·have hk:=qqm e;simp only[go_sem];exact⟨_,qzb (qzc (qzo (ts:=[k]) (.cons (qxe hk) .nil))),hK i2 hA2⟩
   · (refine⟨T,i,ts,deep,fl,a,_,rfl,rfl,hA,.inr ⟨hf,?_⟩⟩;simp only[go_sem])
     (refine⟨T,i,ts,deep,fl,a,_,rfl,rfl,hA,.inr ⟨hf,?_⟩⟩;simp only[go_sem])
     (refine⟨_,T,i,ts,deep,fl,a,rfl,rfl,hA,.inr ⟨hf,fun _ _=>?_⟩⟩;simp only[go_sem])
     (refine⟨T,i,ts,deep,fl,a,_,rfl,rfl,hA,.inr ⟨hf,?_⟩⟩;simp only[go_sem])
     (refine⟨T,i,ts,deep,fl,a,rfl,rfl,hA,.inr ⟨hf,fun k hy_k=>?_⟩⟩;simp only[go_sem])
     exact⟨_,qzb (qzc (qzo (ts:=[qqj k]) (.cons (qqd k) .nil))),hK (.node 8 (Lg.hd ts).text 0 (Lg.hd ts).pos [qqj k]) trivial⟩
def qjf (ts:List Tok):Nat->Lg.PR Tree
 |0=>if Lg.isT Lg.zvh ts||Lg.isT Lg.sLock ts||Lg.isT Lg.sGuard ts then Lg.bnd (Lg.name ts.tail) fun k ts'=>.ok (.node 2 (Lg.hd ts).text 0 (Lg.hd ts).pos [k],ts')else Lg.flt 20 ts
 |1=>if Lg.isT Lg.sLock ts||Lg.isT Lg.sGuard ts then Lg.bnd (Lg.name ts.tail) fun k ts'=>.ok (.node 2 (Lg.hd ts).text 0 (Lg.hd ts).pos [k],ts')else Lg.flt 20 ts
 |2=>if Lg.isT Lg.sGuard ts then Lg.bnd (Lg.name ts.tail) fun k ts'=>.ok (.node 2 (Lg.hd ts).text 0 (Lg.hd ts).pos [k],ts')else Lg.flt 20 ts
 |_=>Lg.flt 20 ts
def nthW:Nat->List UInt8
 |0=>Lg.zvh
 |1=>Lg.sLock
 |_=>Lg.sGuard
theorem sortFrom_lt (ts:List Tok){n:Nat}(h:n<3):qjf ts n=if Lg.isT (nthW n) ts then Lg.bnd (Lg.name ts.tail) fun k ts'=>.ok (.node 2 (Lg.hd ts).text 0 (Lg.hd ts).pos [k],ts')else qjf ts (n+1):=by
 match n,h with
 |0,_=>
  show qjf ts 0=if Lg.isT Lg.zvh ts then _ else qjf ts 1
  unfold qjf;cases Lg.isT Lg.zvh ts<;>simp
 |1,_=>
  show qjf ts 1=if Lg.isT Lg.sLock ts then _ else qjf ts 2
  unfold qjf;cases Lg.isT Lg.sLock ts<;>simp
 |2,_=>rfl
theorem words_at {n:Nat}(h:n<3):([.st [99,111,117,110,116,101,100],.st [108,111,99,107],.st [103,117,97,114,100]]:List D)[n]?=some (.st (nthW n)):=by
 match n,h with
 |0,_=>rfl
 |1,_=>rfl
 |2,_=>rfl
abbrev wordsD:D:=.sl 1 [.st [99,111,117,110,116,101,100],.st [108,111,99,107],.st [103,117,97,114,100]] true
theorem rsort_OK:OK Tryz.prog 108 (refP (fun _=>True) (fun t=>.d (qzr t)) Lg.sort []):=by
 refine fn_OK' qzu (E:=EV) (sp:=spL [(52,rhas),(104,(refP (fun _=>True) (fun t=>.d (qx8 t)) Lg.name [])),(106,zzp)]) qzt qzl (OKs.ok ⟨qxp,⟨qjq,⟨qkc,trivial⟩⟩⟩) func108 rfl ntmps108 results108 call108 [1000] none ?_;rintro ys bx Kr Kp ⟨T,i,ts,deep,fl,a,rfl,hb,hA,hK⟩
 refine⟨[(1000,rbx T i deep fl a)],rfl,⟨by decide,hb,trivial⟩,by simp,?_⟩
 simp only[rbx,lE,lA,hA.i0,hA.i1,hA.get,tokD,List.take_length,go_sem];refine qqo [] [1000] [0,1,2,3,4,5,6,7,8,9,10,11,12,13,14,15,16,17,18,19,20,21] (wB 22 (wD 23 24 wZ) 23 (wD 22 24 wZ)) ⟨64,put 0 (.bp 1000 0) (put 2 (.bp 2 0) (put 3 (.bp 3 0) nix)),put 1000 (rbx T i deep fl a) (put 2 ⟨zeroC,100⟩ (put 3 ⟨[.d (.int .i64 2),.d (.st (Lg.hd ts).text),.d (.int .i64 0),.d (.int .i64 (Lg.hd ts).pos),.d (.imm (.slice none 0 0))],100⟩ nix)),nix⟩ (by decide) ?_ ?_
 · simp only[rbx,lE,lA,hA.i0,hA.i1,hA.get,tokD,List.take_length,go_sem]
   repeat' apply And.intro
   all_goals exact zsub (sP3 qza) (sP3 qza) qza
 · simp only[go_sem]
   rcases hK with⟨rfl,hK⟩|⟨hf,hK⟩
   · unfold Lg.sort at hK
     refine⟨T,i,ts,deep,0,a,Lg.sOwn,rfl,rfl,hA,.inl ⟨rfl,fun h=>?_,fun h=>?_⟩⟩
     ·rw[if_pos h]at hK;simp only[go_sem];exact⟨_,qzb (qzc (.nil _ _)),hK _ (hA.isT h)⟩
     · rw[if_neg (qzg h)]at hK;simp only[go_sem]
       refine⟨T,i,ts,deep,0,a,Lg.sCell,rfl,rfl,hA,.inl ⟨rfl,fun h=>?_,fun h=>?_⟩⟩
       ·rw[if_pos h]at hK;simp only[go_sem];exact⟨_,qzb (qzc (.nil _ _)),hK _ (hA.isT h)⟩
       · rw[if_neg (qzg h)]at hK;simp only[go_sem]
         refine qzj (T:={n:Nat //n<=3/\refQ T deep a (fun _=>True) (fun t=>.d (qzr t)) Kr (qjf ts n)})
          (fun n=>⟨64,put 0 (.bp 1000 0) (put 2 (.bp 2 0) (put 3 (.bp 3 0) (put 6 (.d wordsD) (put 7 (.d (.int .i64 n.1)) nix)))),put 1000 (rbx T i deep 0 a) (put 2 ⟨zeroC,100⟩ (put 3 ⟨[.d (.int .i64 2),.d (.st (Lg.hd ts).text),.d (.int .i64 0),.d (.int .i64 (Lg.hd ts).pos),.d (.imm (.slice none 0 0))],100⟩ nix)),nix⟩) (fun n=>3-n.1) ⟨0,by omega,hK⟩
          (zsub (sP5 qza) (sP3 qza) qza) ?_
         rintro⟨n,hn0,hK0⟩;have hn:n<=3:=hn0;have hK1:refQ T deep a (fun _=>True) (fun t=>.d (qzr t)) Kr (qjf ts n):=hK0;dsimp only;clear hK hK0 hn0;simp only[go_sem]
         refine⟨fun h=>?_,fun h=>?_⟩
         · have h3:n<3:=by have:=lF h;omega
           refine⟨by omega,by omega,?_⟩
           rw[sortFrom_lt ts h3]at hK1;simp only[lA,words_at h3,go_sem]
           refine⟨T,i,ts,deep,0,a,nthW n,rfl,rfl,hA,.inl ⟨rfl,fun h=>?_,fun h=>?_⟩⟩
           · rw[if_pos h]at hK1;simp only[go_sem];have hK:=hK1;refine⟨T,i+1,ts.tail,deep,0,a,rfl,rfl,hA.isT h,.inl ⟨rfl,qzf hK (fun p' c hc hE k i' ts' hb' hA'=>?_) (fun k ts2 i2 e hK hA2=>?_)⟩⟩
             ·simp only[go_sem];exact⟨_,qzb (qzc (qzo (ts:=[qqj k]) (.cons (qqd k) .nil))),hE (.node 2 (Lg.hd ts).text 0 (Lg.hd ts).pos [qqj k]) i' trivial ⟨ts',hA'⟩⟩
             ·have hk:=qqm e;simp only[go_sem];exact⟨_,qzb (qzc (qzo (ts:=[k]) (.cons (qxe hk) .nil))),hK i2 hA2⟩
           · rw[if_neg (qzg h)]at hK1;simp only[go_sem]
             exact⟨by omega,⟨n+1,by omega,hK1⟩,zsub (sP5 qza) (sP3 qza) qza,by show 3-(n+1)<3-n;omega⟩
         · have e:n=3:=by have:=lG h;omega
           subst e;refine⟨T,i,ts,deep,0,a,20,rfl,rfl,hA,.inl ⟨rfl,?_⟩⟩;simp only[go_sem];exact⟨_,qzb (qzc (.nil _ _)),hK1 (by decide) (.node 2 (Lg.hd ts).text 0 (Lg.hd ts).pos []) i trivial ⟨ts,hA⟩⟩
   · (refine⟨T,i,ts,deep,fl,a,_,rfl,rfl,hA,.inr ⟨hf,?_⟩⟩;simp only[go_sem])
     (refine⟨T,i,ts,deep,fl,a,_,rfl,rfl,hA,.inr ⟨hf,?_⟩⟩;simp only[go_sem])
     refine qzj (T:={n:Nat //n<=3})
      (fun n=>⟨64,put 0 (.bp 1000 0) (put 2 (.bp 2 0) (put 3 (.bp 3 0) (put 6 (.d wordsD) (put 7 (.d (.int .i64 n.1)) nix)))),put 1000 (rbx T i deep fl a) (put 2 ⟨zeroC,100⟩ (put 3 ⟨[.d (.int .i64 2),.d (.st (Lg.hd ts).text),.d (.int .i64 0),.d (.int .i64 (Lg.hd ts).pos),.d (.imm (.slice none 0 0))],100⟩ nix)),nix⟩) (fun n=>3-n.1) ⟨0,by omega⟩
      (zsub (sP5 qza) (sP3 qza) qza) ?_
     rintro⟨n,hn⟩;simp only[go_sem]
     refine⟨fun h=>?_,fun h=>?_⟩
     · have h3:n<3:=by have:=lF h;omega
       refine⟨by omega,by omega,?_⟩
       simp only[lA,words_at h3,go_sem]
       (refine⟨T,i,ts,deep,fl,a,_,rfl,rfl,hA,.inr ⟨hf,?_⟩⟩;simp only[go_sem])
       exact⟨by omega,⟨n+1,by omega⟩,zsub (sP5 qza) (sP3 qza) qza,by show 3-(n+1)<3-n;omega⟩
     · (refine⟨T,i,ts,deep,fl,a,_,rfl,rfl,hA,.inr ⟨hf,?_⟩⟩;simp only[go_sem])
       exact⟨_,qzb (qzc (.nil _ _)),hK (.node 2 (Lg.hd ts).text 0 (Lg.hd ts).pos []) trivial⟩
end Lx
