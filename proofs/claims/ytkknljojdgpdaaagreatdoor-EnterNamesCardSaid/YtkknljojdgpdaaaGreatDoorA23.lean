import Derived.Test.YtkknljojdgpdaaaGreatDoorA21
import Derived.Test.YtkknljojdgpdaaaGreatDoorA12
set_option maxHeartbeats 32000000
set_option linter.unusedSimpArgs false
set_option linter.unusedVariables false
set_option maxRecDepth 20000
namespace Lx
open Go
open Lg (Tok Tree)
open Go.Proofs (Tryz.prog)
open Go.Proofs.Tryz
section
variable {α β:Type}{T:List Tok}{deep a:Int}{bad:β->Prop}{res:β->LV}{Kr:LV->Bx->Ar1->Prop}{bad':α->Prop}{res':α->LV}{Kr':LV->Bx->Ar1->Prop}
def flQ (T:List Tok)(deep:Int)(bad:β->Prop)(res:β->LV)(Kr:LV->Bx->Ar1->Prop)(c p:Int):Prop:=∀y i,bad y->(∃ts',At T i ts')->Kr (res y) (put 1000 (rbx T i deep c p) nix) none
theorem qzf {x:Lg.PR α}{k:α->List Tok->Lg.PR β}(hK:refQ T deep a bad res Kr (Lg.bnd x k))
  (herr:∀p c,c≠0->flQ T deep bad res Kr c p->∀y i ts',bad' y->At T i ts'->Kr' (res' y) (put 1000 (rbx T i deep c p) nix) none)
  (hok:∀v ts' i,x=.ok (v,ts')->refQ T deep a bad res Kr (k v ts')->At T i ts'->Kr' (res' v) (put 1000 (rbx T i deep 0 a) nix) none):refQ T deep a bad' res' Kr' x:=by
 cases x with
 |error q=>exact fun hc y i hb ⟨ts',hA⟩=>herr q.1 q.2 hc (hK hc) y i ts' hb hA
 |ok q=>exact fun i hA=>hok q.1 q.2 i rfl hK hA
end
theorem bnd3 {α β γ:Type}(x:Lg.PR α)(f:α->List Tok->Lg.PR β)(g:β->List Tok->Lg.PR γ):Lg.bnd (Lg.bnd x f) g=Lg.bnd x fun v ts=>Lg.bnd (f v ts) g:=by
 cases x<;>rfl
def rmore:Spec:=fun ys bx Kr Kp=>∃n,refP (fun _=>True) (fun t=>.d (qx8 t)) (Lg.more n) [.d (qx8 n)] ys bx Kr Kp
theorem zkf {T:List Tok}{i:Nat}{ts ts':List Tok}{v:Int}(h:At T i ts)(e:Lg.zzr 1 ts=.ok (v,ts')): -9223372036854775807<=v/\v<=9223372036854775807:=by
 unfold Lg.zzr Lg.take Lg.flt Lg.bnd at e;split at e
 ·cases e
 · rename_i x q e2;split at e2
   ·rename_i hk;cases e2;cases e;have:=h.2.1.hd (by omega);rw[Int.one_mul];exact⟨this.1,this.2.1⟩
   ·cases e2
theorem zkg (ts:List Tok):Lg.zzr (-1) ts=Lg.bnd (Lg.zzr 1 ts) fun v ts=>.ok (-v,ts):=by
 unfold Lg.zzr Lg.take Lg.flt Lg.bnd;split
 ·rename_i h;split at h<;>simp_all
 ·rename_i h;split at h<;>simp_all
theorem rmore_OK:OK Tryz.prog 161 rmore:=by
 refine fn_OK' qzu (E:=EV) (sp:=spL [(52,rhas),(158,(refP (· =0) (fun v:Int=>.d (.int .i64 v)) (Lg.zzr 1) []))]) qzt qzl (OKs.ok ⟨qxp,⟨qwk,trivial⟩⟩) func161 rfl ntmps161 results161 call161 [1000] none ?_;rintro ys bx Kr Kp ⟨n,T,i,ts,deep,fl,a,rfl,hb,hA,hK⟩
 refine⟨[(1000,rbx T i deep fl a)],rfl,⟨by decide,hb,trivial⟩,by simp,?_⟩
 obtain⟨k,t,m,p,ks⟩:=n
 rcases hK with⟨rfl,hK⟩|⟨hf,hK⟩
 · unfold Lg.more at hK;simp only[qx8,go_sem]
   refine⟨T,i,ts,deep,0,a,Lg.sPlus,rfl,rfl,hA,.inl ⟨rfl,fun h=>?_,fun h=>?_⟩⟩
   · rw[if_pos h]at hK;simp only[go_sem];refine⟨T,i+1,ts.tail,deep,0,a,rfl,rfl,hA.isT h,.inl ⟨rfl,qzf hK (fun p' c hc hE y i' ts' hb' hA'=>?_) (fun v ts' i' e hK hA'=>?_)⟩⟩
     ·simp only[go_sem];exact⟨_,qzb (.rfl _),hE (.node k t y p ks) i' trivial ⟨ts',hA'⟩⟩
     ·simp only[go_sem];exact⟨_,qzb (.rfl _),hK i' hA'⟩
   · rw[if_neg (qzg h)]at hK;simp only[go_sem]
     refine⟨T,i,ts,deep,0,a,Lg.sMinus,rfl,rfl,hA,.inl ⟨rfl,fun h=>?_,fun h=>?_⟩⟩
     · rw[if_pos h,zkg,bnd3]at hK;simp only[go_sem];refine⟨T,i+1,ts.tail,deep,0,a,rfl,rfl,hA.isT h,.inl ⟨rfl,qzf hK (fun p' c hc hE y i' ts' hb' hA'=>?_) (fun v ts' i' e hK hA'=>?_)⟩⟩
       ·subst hb';simp only[go_sem];exact⟨_,qzb (.rfl _),hE (.node k t 0 p ks) i' trivial ⟨ts',hA'⟩⟩
       · have hr:=zkf (hA.isT h) e;simp only[go_sem]
         refine⟨by omega,_,qzb ?_,hK i' hA'⟩
         rw[Int.zero_sub];exact .rfl _
     ·rw[if_neg (qzg h)]at hK;simp only[go_sem];exact⟨_,qzb (.rfl _),hK i hA⟩
 ·simp only[qx8,go_sem];refine⟨T,i,ts,deep,fl,a,Lg.sPlus,rfl,rfl,hA,.inr ⟨hf,?_⟩⟩;simp only[go_sem];refine⟨T,i,ts,deep,fl,a,Lg.sMinus,rfl,rfl,hA,.inr ⟨hf,?_⟩⟩;simp only[go_sem];exact⟨_,qzb (.rfl _),hK (.node k t m p ks) trivial⟩
theorem zzo:OK Tryz.prog 142 (refP (fun _=>True) (fun t=>.d (qx8 t)) Lg.term []):=by
 refine fn_OK' qzu (E:=EV) (sp:=spL [(158,(refP (· =0) (fun v:Int=>.d (.int .i64 v)) (Lg.zzr 1) [])),(52,rhas),(104,(refP (fun _=>True) (fun t=>.d (qx8 t)) Lg.name [])),(161,rmore)]) qzt qzl (OKs.ok ⟨qwk,⟨qxp,⟨qjq,⟨rmore_OK,trivial⟩⟩⟩⟩) func142 rfl ntmps142 results142 call142 [1000] none ?_;rintro ys bx Kr Kp ⟨T,i,ts,deep,fl,a,rfl,hb,hA,hK⟩
 refine⟨[(1000,rbx T i deep fl a)],rfl,⟨by decide,hb,trivial⟩,by simp,?_⟩
 simp only[rbx,lE,lA,hA.i0,hA.i1,hA.get,tokD,List.take_length,go_sem];refine qz5 ?_;simp only[rbx,lE,lA,hA.i0,hA.i1,hA.get,tokD,List.take_length,go_sem];refine qz5 ?_;simp only[rbx,lE,lA,hA.i0,hA.i1,hA.get,tokD,List.take_length,go_sem]
 refine⟨fun h=>?_,fun h=>?_⟩
 · refine⟨T,i,ts,deep,fl,a,rfl,rfl,hA,?_⟩
   rcases hK with⟨rfl,hK⟩|⟨hf,hK⟩
   · unfold Lg.term at hK;rw[if_pos (by simpa using h)]at hK;refine .inl ⟨rfl,qzf hK (fun p' c hc hE y i' ts' hb' hA'=>?_) (fun v ts' i' e hK hA'=>?_)⟩
     ·simp only[go_sem];exact⟨_,qzb (.rfl _),hE (.node 5 [] y (Lg.hd ts).pos []) i' trivial ⟨ts',hA'⟩⟩
     ·simp only[go_sem];exact⟨_,qzb (.rfl _),hK i' hA'⟩
   · refine .inr ⟨hf,fun y hy=>?_⟩
     simp only[go_sem];exact⟨_,qzb (.rfl _),hK (.node 5 [] y (Lg.hd ts).pos []) trivial⟩
 · rcases hK with⟨rfl,hK⟩|⟨hf,hK⟩
   · unfold Lg.term at hK;rw[if_neg (by simpa using h)]at hK
     refine⟨T,i,ts,deep,0,a,Lg.sMinus,rfl,rfl,hA,.inl ⟨rfl,fun h2=>?_,fun h2=>?_⟩⟩
     · rw[if_pos h2,zkg,bnd3]at hK;simp only[go_sem];refine⟨T,i+1,ts.tail,deep,0,a,rfl,rfl,hA.isT h2,.inl ⟨rfl,qzf hK (fun p' c hc hE y i' ts' hb' hA'=>?_) (fun v ts' i' e hK hA'=>?_)⟩⟩
       ·subst hb';simp only[go_sem];exact⟨_,qzb (.rfl _),hE (.node 5 [] 0 (Lg.hd ts).pos []) i' trivial ⟨ts',hA'⟩⟩
       · have hr:=zkf (hA.isT h2) e;simp only[go_sem]
         refine⟨by omega,_,qzb ?_,hK i' hA'⟩
         rw[Int.zero_sub];exact .rfl _
     · rw[if_neg (qzg h2)]at hK;simp only[go_sem];refine⟨T,i,ts,deep,0,a,rfl,rfl,hA,.inl ⟨rfl,qzf hK (fun p' c hc hE y i' ts' hb' hA'=>?_) (fun v ts' i' e hK hA'=>?_)⟩⟩
       · simp only[qx8,go_sem]
         refine⟨y,T,i',ts',deep,c,p',rfl,rfl,hA',.inr ⟨hc,fun y2 hy2=>?_⟩⟩
         simp only[go_sem];exact⟨_,qzb (.rfl _),hE y2 i' trivial ⟨ts',hA'⟩⟩
       · simp only[qx8,go_sem];refine⟨v,T,i',ts',deep,0,a,rfl,rfl,hA',.inl ⟨rfl,?_⟩⟩
         cases hm:Lg.more v ts' with
         |error q=>
          rw[hm]at hK;intro hc y2 i2 hy2 ⟨ts2,hA2⟩;simp only[go_sem];exact⟨_,qzb (.rfl _),hK hc y2 i2 trivial ⟨ts2,hA2⟩⟩
         |ok q=>
          rw[hm]at hK;intro i2 hA2;simp only[go_sem];exact⟨_,qzb (.rfl _),hK i2 hA2⟩
   · refine⟨T,i,ts,deep,fl,a,Lg.sMinus,rfl,rfl,hA,.inr ⟨hf,?_⟩⟩;simp only[go_sem]
     refine⟨T,i,ts,deep,fl,a,rfl,rfl,hA,.inr ⟨hf,fun y hy=>?_⟩⟩
     simp only[qx8,go_sem]
     refine⟨y,T,i,ts,deep,fl,a,rfl,rfl,hA,.inr ⟨hf,fun y2 hy2=>?_⟩⟩
     simp only[go_sem];exact⟨_,qzb (.rfl _),hK y2 trivial⟩
theorem zk1 {i:Nat}(h:i<3):([.st [60],.st [60,61],.st [61,61]]:List D)[i]?=some (.st (nthT i)):=by
 match i,h with
 |0,_=>rfl
 |1,_=>rfl
 |2,_=>rfl
theorem rcmp_OK:OK Tryz.prog 143 (refP (fun _=>True) (fun b:Bs=>.d (.st b)) Lg.cmp []):=by
 refine fn_OK' qzu (E:=EV) (sp:=spL [(52,rhas),(106,zzp)]) qzt qzl (OKs.ok ⟨qxp,⟨qkc,trivial⟩⟩) func143 rfl ntmps143 results143 call143 [1000] none ?_;rintro ys bx Kr Kp ⟨T,i,ts,deep,fl,a,rfl,hb,hA,hK⟩
 refine⟨[(1000,rbx T i deep fl a)],rfl,⟨by decide,hb,trivial⟩,by simp,?_⟩
 rcases hK with⟨rfl,hK⟩|⟨hf,hK⟩
 · simp only[go_sem]
   refine qzj (T:={n:Nat //n<=3/\refQ T deep a (fun _=>True) (fun b:Bs=>.d (.st b)) Kr (zjj ts n)})
    (fun n=>⟨26,put 0 (.bp 1000 0) (put 3 (.d (.sl 1 [.st [60],.st [60,61],.st [61,61]] true)) (put 4 (.d (.int .i64 n.1)) nix)),put 1000 (rbx T i deep 0 a) nix,nix⟩) (fun n=>3-n.1) ⟨0,by omega,hK⟩
    (zsub (sP3 qza) (sP1 qza) qza) ?_
   rintro⟨n,hn0,hK0⟩;have hn:n<=3:=hn0;have hK1:refQ T deep a (fun _=>True) (fun b:Bs=>.d (.st b)) Kr (zjj ts n):=hK0;dsimp only;clear hK hK0 hn0;simp only[go_sem]
   refine⟨fun h=>?_,fun h=>?_⟩
   · have h3:n<3:=by have:=lF h;omega
     refine⟨by omega,by omega,?_⟩
     rw[zku ts h3]at hK1;simp only[lA,zk1 h3,go_sem]
     refine⟨T,i,ts,deep,0,a,nthT n,rfl,rfl,hA,.inl ⟨rfl,fun h=>?_,fun h=>?_⟩⟩
     · rw[if_pos h]at hK1;simp only[lA,zk1 h3,go_sem]
       exact⟨by omega,by omega,_,qzb (.rfl _),hK1 _ (hA.isT h)⟩
     · rw[if_neg (qzg h)]at hK1;simp only[go_sem]
       exact⟨by omega,⟨n+1,by omega,hK1⟩,zsub (sP3 qza) (sP1 qza) qza,by show 3-(n+1)<3-n;omega⟩
   · have e:n=3:=by have:=lG h;omega
     subst e;simp only[go_sem];refine⟨T,i,ts,deep,0,a,20,rfl,rfl,hA,.inl ⟨rfl,?_⟩⟩;simp only[go_sem];exact⟨_,qzb (.rfl _),hK1 (by decide) [] i trivial ⟨ts,hA⟩⟩
 · simp only[go_sem]
   refine qzj (T:={n:Nat //n<=3})
    (fun n=>⟨26,put 0 (.bp 1000 0) (put 3 (.d (.sl 1 [.st [60],.st [60,61],.st [61,61]] true)) (put 4 (.d (.int .i64 n.1)) nix)),put 1000 (rbx T i deep fl a) nix,nix⟩) (fun n=>3-n.1) ⟨0,by omega⟩
    (zsub (sP3 qza) (sP1 qza) qza) ?_
   rintro⟨n,hn⟩;simp only[go_sem]
   refine⟨fun h=>?_,fun h=>?_⟩
   · have h3:n<3:=by have:=lF h;omega
     refine⟨by omega,by omega,?_⟩
     simp only[lA,zk1 h3,go_sem];refine⟨T,i,ts,deep,fl,a,nthT n,rfl,rfl,hA,.inr ⟨hf,?_⟩⟩;simp only[go_sem]
     exact⟨by omega,⟨n+1,by omega⟩,zsub (sP3 qza) (sP1 qza) qza,by show 3-(n+1)<3-n;omega⟩
   ·refine⟨T,i,ts,deep,fl,a,20,rfl,rfl,hA,.inr ⟨hf,?_⟩⟩;simp only[go_sem];exact⟨_,qzb (.rfl _),hK [] trivial⟩
def qqj (w:Tree):Tree:=.node w.kind w.text w.num w.pos []
theorem qqd (w:Tree):D.le (.ag [.int .i64 w.kind,.st w.text,.int .i64 w.num,.int .i64 w.pos,.imm (.slice none 0 0)]) (qzr (qqj w)):=qzc (.nil _ _)
theorem qxe {w:Tree}(h:w.kids=[]):D.le (.ag [.int .i64 w.kind,.st w.text,.int .i64 w.num,.int .i64 w.pos,.imm (.slice none 0 0)]) (qzr w):=by
 obtain⟨k,t,n,p,ks⟩:=w;cases h;exact qzc (.nil _ _)
theorem qqm {ts ts':List Tok}{w:Tree}(h:Lg.name ts=.ok (w,ts')):w.kids=[]:=by
 obtain⟨t,l,_,h⟩:=Lg.qzs h;cases h;rfl
theorem zzu {n:Tree}{ts ts':List Tok}{w:Tree}(hn:n.kids=[])(h:Lg.more n ts=.ok (w,ts')):w.kids=[]:=by
 obtain⟨k,t,m,p,ks⟩:=n;unfold Lg.more at h;split at h
 ·obtain⟨v,l,_,h⟩:=Lg.qzs h;cases h;exact hn
 · split at h
   ·obtain⟨v,l,_,h⟩:=Lg.qzs h;cases h;exact hn
   ·cases h;exact hn
theorem qxx {ts ts':List Tok}{w:Tree}(h:Lg.term ts=.ok (w,ts')):w.kids=[]:=by
 unfold Lg.term at h;split at h
 ·obtain⟨v,l,_,h⟩:=Lg.qzs h;cases h;rfl
 · split at h
   ·obtain⟨v,l,_,h⟩:=Lg.qzs h;cases h;rfl
   ·obtain⟨n,l,h1,h2⟩:=Lg.qzs h;exact zzu (qqm h1) h2
theorem rfield_OK:OK Tryz.prog 109 (refP (fun _=>True) (fun t=>.d (qzr t)) Lg.field []):=by
 refine fn_OK' qzu (E:=EV) (sp:=spL [(104,(refP (fun _=>True) (fun t=>.d (qx8 t)) Lg.name [])),(52,rhas),(54,zq6)]) qzt qzl (OKs.ok ⟨qjq,⟨qxp,⟨qx1,trivial⟩⟩⟩) func109 rfl ntmps109 results109 call109 [1000] none ?_;rintro ys bx Kr Kp ⟨T,i,ts,deep,fl,a,rfl,hb,hA,hK⟩
 refine⟨[(1000,rbx T i deep fl a)],rfl,⟨by decide,hb,trivial⟩,by simp,?_⟩
 simp only[go_sem]
 rcases hK with⟨rfl,hK⟩|⟨hf,hK⟩
 · unfold Lg.field at hK;refine⟨T,i,ts,deep,0,a,rfl,rfl,hA,.inl ⟨rfl,qzf hK (fun p' c hc hE v i' ts' hb' hA'=>?_) (fun v ts1 i1 e hK hA1=>?_)⟩⟩
   · simp only[go_sem]
     (refine⟨T,i',ts',deep,c,p',_,rfl,rfl,hA',.inr ⟨hc,?_⟩⟩;simp only[go_sem])
     exact⟨_,qzb (qzc (.nil _ _)),hE (.node 3 v.text v.num v.pos []) i' trivial ⟨ts',hA'⟩⟩
   · have hv:=qqm e;obtain⟨k,t,m,p,ks⟩:=v;cases hv;simp only[go_sem]
     refine⟨T,i1,ts1,deep,0,a,Lg.sLbr,rfl,rfl,hA1,.inl ⟨rfl,fun h=>?_,fun h=>?_⟩⟩
     · rw[if_pos h]at hK;simp only[go_sem];refine⟨T,i1+1,ts1.tail,deep,0,a,rfl,rfl,hA1.isT h,.inl ⟨rfl,qzf hK (fun p' c hc hE w i' ts' hb' hA'=>?_) (fun w ts2 i2 e hK hA2=>?_)⟩⟩
       · simp only[go_sem]
         (refine⟨_,T,i',ts',deep,c,p',rfl,rfl,hA',.inr ⟨hc,fun _ _=>?_⟩⟩;simp only[go_sem])
         exact⟨_,qzb (qzc (qzo (ts:=[qqj w]) (.cons (qqd w) .nil))),hE (.node 3 t m p [qqj w]) i' trivial ⟨ts',hA'⟩⟩
       · have hw:=qqm e;simp only[go_sem];refine⟨_,T,i2,ts2,deep,0,a,rfl,rfl,hA2,.inl ⟨rfl,qzf hK (fun p' c hc hE _ i' ts' hb' hA'=>?_) (fun _ ts3 i3 e hK hA3=>?_)⟩⟩
         ·simp only[go_sem];exact⟨_,qzb (qzc (qzo (ts:=[qqj w]) (.cons (qqd w) .nil))),hE (.node 3 t m p [qqj w]) i' trivial ⟨ts',hA'⟩⟩
         ·simp only[go_sem];exact⟨_,qzb (qzc (qzo (ts:=[w]) (.cons (qxe hw) .nil))),hK i3 hA3⟩
     ·rw[if_neg (qzg h)]at hK;simp only[go_sem];exact⟨_,qzb (qzc (.nil _ _)),hK i1 hA1⟩
 · (refine⟨T,i,ts,deep,fl,a,rfl,rfl,hA,.inr ⟨hf,fun y hy_y=>?_⟩⟩;simp only[go_sem])
   (refine⟨T,i,ts,deep,fl,a,_,rfl,rfl,hA,.inr ⟨hf,?_⟩⟩;simp only[go_sem])
   exact⟨_,qzb (qzc (.nil _ _)),hK (.node 3 y.text y.num y.pos []) trivial⟩
def zja (t:Tree):D:=.ag [.int .i64 t.kind,.st t.text,.int .i64 t.num,.int .i64 t.pos,.sl 5 (qze t.kids) true]
@[go_sem]theorem fullD_eq (t:Tree):zja t=.ag [.int .i64 t.kind,.st t.text,.int .i64 t.num,.int .i64 t.pos,.sl 5 (qze t.kids) true]:=(rfl)
theorem zx5 {k:Int}{t:List UInt8}{n p:Int}{xs:List D}{ks:List Tree}(h:D.les xs (qze ks)):D.le (.ag [.int .i64 k,.st t,.int .i64 n,.int .i64 p,.sl 5 xs true]) (zja (.node k t n p ks)):=.ag (.cons (.rfl _) (.cons (.rfl _) (.cons (.rfl _) (.cons (.rfl _) (.cons (.sl h (fun _=>rfl)) .nil)))))
theorem zqn (t:Tree):D.le (.ag [.int .i64 t.kind,.st t.text,.int .i64 t.num,.int .i64 t.pos,.sl 5 (qze t.kids) true]) (qzr t):=by
 obtain⟨k,s,n,p,ks⟩:=t;exact qzc (.sl (D.les.refl _) (fun e=>by cases e))
theorem rfact_OK:OK Tryz.prog 110 (refP (fun t:Tree=>t.kids.length=2) (fun t=>.d (zja t)) Lg.fact []):=by
 refine fn_OK' qzu (E:=EV) (sp:=spL [(142,(refP (fun _=>True) (fun t=>.d (qx8 t)) Lg.term [])),(143,(refP (fun _=>True) (fun b:Bs=>.d (.st b)) Lg.cmp []))]) qzt qzl (OKs.ok ⟨zzo,⟨rcmp_OK,trivial⟩⟩) func110 rfl ntmps110 results110 call110 [1000] none ?_;rintro ys bx Kr Kp ⟨T,i,ts,deep,fl,a,rfl,hb,hA,hK⟩
 refine⟨[(1000,rbx T i deep fl a)],rfl,⟨by decide,hb,trivial⟩,by simp,?_⟩
 simp only[go_sem]
 rcases hK with⟨rfl,hK⟩|⟨hf,hK⟩
 · unfold Lg.fact at hK;refine⟨T,i,ts,deep,0,a,rfl,rfl,hA,.inl ⟨rfl,qzf hK (fun p' c hc hE v i' ts' hb' hA'=>?_) (fun v ts1 i1 e hK hA1=>?_)⟩⟩
   · simp only[go_sem]
     (refine⟨T,i',ts',deep,c,p',rfl,rfl,hA',.inr ⟨hc,fun o hy_o=>?_⟩⟩;simp only[go_sem])
     (refine⟨T,i',ts',deep,c,p',rfl,rfl,hA',.inr ⟨hc,fun w hy_w=>?_⟩⟩;simp only[go_sem])
     exact⟨_,qzb (zx5 (ks:=[qqj v,qqj w]) (.cons (qqd v) (.cons (qqd w) .nil))),hE (.node 4 o 0 v.pos [qqj v,qqj w]) i' rfl ⟨ts',hA'⟩⟩
   · have hv:=qxx e;simp only[go_sem];refine⟨T,i1,ts1,deep,0,a,rfl,rfl,hA1,.inl ⟨rfl,qzf hK (fun p' c hc hE o i' ts' hb' hA'=>?_) (fun o ts2 i2 e hK hA2=>?_)⟩⟩
     · simp only[go_sem]
       (refine⟨T,i',ts',deep,c,p',rfl,rfl,hA',.inr ⟨hc,fun w hy_w=>?_⟩⟩;simp only[go_sem])
       exact⟨_,qzb (zx5 (ks:=[qqj v,qqj w]) (.cons (qqd v) (.cons (qqd w) .nil))),hE (.node 4 o 0 v.pos [qqj v,qqj w]) i' rfl ⟨ts',hA'⟩⟩
     · simp only[go_sem];refine⟨T,i2,ts2,deep,0,a,rfl,rfl,hA2,.inl ⟨rfl,qzf hK (fun p' c hc hE w i' ts' hb' hA'=>?_) (fun w ts3 i3 e hK hA3=>?_)⟩⟩
       ·simp only[go_sem];exact⟨_,qzb (zx5 (ks:=[qqj v,qqj w]) (.cons (qqd v) (.cons (qqd w) .nil))),hE (.node 4 o 0 v.pos [qqj v,qqj w]) i' rfl ⟨ts',hA'⟩⟩
       ·have hw:=qxx e;simp only[go_sem];exact⟨_,qzb (zx5 (ks:=[v,w]) (.cons (qxe hv) (.cons (qxe hw) .nil))),hK i3 hA3⟩
 · (refine⟨T,i,ts,deep,fl,a,rfl,rfl,hA,.inr ⟨hf,fun v hy_v=>?_⟩⟩;simp only[go_sem])
   (refine⟨T,i,ts,deep,fl,a,rfl,rfl,hA,.inr ⟨hf,fun o hy_o=>?_⟩⟩;simp only[go_sem])
   (refine⟨T,i,ts,deep,fl,a,rfl,rfl,hA,.inr ⟨hf,fun w hy_w=>?_⟩⟩;simp only[go_sem])
   exact⟨_,qzb (zx5 (ks:=[qqj v,qqj w]) (.cons (qqd v) (.cons (qqd w) .nil))),hK (.node 4 o 0 v.pos [qqj v,qqj w]) rfl⟩
theorem zjg {ts ts':List Tok}{w:Tree}(h:Lg.fact ts=.ok (w,ts')):w.kids.length=2:=by
 obtain⟨a,ts1,_,h⟩:=Lg.qzs h;obtain⟨o,ts2,_,h⟩:=Lg.qzs h;obtain⟨b,ts3,_,h⟩:=Lg.qzs h;cases h;rfl
abbrev qvp:List LV:=[.d (.int .i64 0),.d (.st []),.d (.int .i64 0),.d (.int .i64 0),.d (.imm (.slice none 0 0))]
def qx7 (ds:List D)(ts:List Tree):Prop:=D.les ds (qze ts)
theorem qx7.snoc {ds:List D}{ts:List Tree}(h:qx7 ds ts){x:D}{t:Tree}(hx:D.le x (qzr t)):qx7 (ds++[x]) (ts++[t]):=by
 unfold qx7 at*;rw[qzp]
 induction ds generalizing ts with
 |nil=>cases ts with
  |nil=>exact .cons hx .nil
  |cons t ts=>cases h
 |cons d ds ih=>cases ts with
  |nil=>cases h
  |cons t ts=>
   cases h with
   |cons h1 h2=>exact .cons h1 (ih h2)
theorem qx7.len {ds:List D}{ts:List Tree}(h:qx7 ds ts):ds.length=ts.length:=by
 rw[D.les.length h,qzn]
theorem zk3 {ts:List Tok}(h:ts.length<1->False):ts.tail.length<ts.length:=by
 cases ts with
 |nil=>exact(h (by decide)).elim
 |cons t l=>simp
theorem zvr {one:List Tok->Lg.PR Tree}(he:∀ts x ts',one ts=.ok (x,ts')->ts'.length<ts.length){ts:List Tok}(h:Lg.isT Lg.sComma ts=true):
  Lg.qxj one ts=Lg.bnd (one ts.tail) fun x ts'=>Lg.bnd (Lg.qxj one ts') fun xs ts''=>.ok (x::xs,ts''):=by
 rw[Lg.qxj,if_pos h]
 cases h1:one ts.tail with
 |error q=>rfl
 |ok q=>
  obtain⟨x,ts'⟩:=q;have h2:=he _ _ _ h1
  have h3:ts.tail.length<=ts.length:=by rw[List.length_tail];omega
  show(if ts'.length<ts.length then _ else _)=_
  rw[if_pos (by omega)];rfl
theorem listTail_end {one:List Tok->Lg.PR Tree}{ts:List Tok}(h:Lg.isT Lg.sComma ts=false):Lg.qxj one ts=.ok ([],ts):=by
 rw[Lg.qxj,if_neg (by rw[h];decide)]
def qj8 {β:Type}(one:List Tok->Lg.PR Tree)(k:List Tree->List Tok->Lg.PR β)(acc:List Tree)(ts:List Tok):Lg.PR β:=Lg.bnd (Lg.qxj one ts) fun xs ts=>k (acc++xs) ts
theorem qq7 {β:Type}{one:List Tok->Lg.PR Tree}(he:∀ts x ts',one ts=.ok (x,ts')->ts'.length<ts.length){k:List Tree->List Tok->Lg.PR β}{acc:List Tree}{ts:List Tok}(h:Lg.isT Lg.sComma ts=true):
  qj8 one k acc ts=Lg.bnd (one ts.tail) fun x ts'=>qj8 one k (acc++[x]) ts':=by
 unfold qj8;rw[zvr he h,bnd3]
 congr 1
 funext x ts'
 rw[bnd3]
 congr 1
 funext xs ts''
 show k (acc++x::xs) ts''=k (acc++[x]++xs) ts''
 rw[List.append_assoc];rfl
theorem qxz {β:Type}{one:List Tok->Lg.PR Tree}{k:List Tree->List Tok->Lg.PR β}{acc:List Tree}{ts:List Tok}(h:Lg.isT Lg.sComma ts=false):qj8 one k acc ts=k acc ts:=by
 unfold qj8;rw[listTail_end h]
 show k (acc++[]) ts=_
 rw[List.append_nil]
theorem qwp {β:Type}(one:List Tok->Lg.PR Tree)(k:List Tree->List Tok->Lg.PR β)(ts:List Tok):Lg.bnd (Lg.list one ts) k=Lg.bnd (one ts) fun x ts'=>qj8 one k [x] ts':=by
 unfold Lg.list qj8;rw[bnd3]
 congr 1
 funext x ts'
 rw[bnd3];rfl
abbrev argK (xs:List Tree)(ts:List Tok):Lg.PR (List Tree):=Lg.bnd (Lg.must Lg.sRpar ts) fun _ ts=>.ok (xs,ts)
abbrev argSt (T:List Tok)(deep:Int)(ds:List D)(w:Tree)(i:Nat)(fl p:Int):S:=
 ⟨36,put 0 (.bp 1000 0) (put 4 (.bp 4 0) (put 5 (.os 22 5 ds.length) nix)),put 1000 (rbx T i deep fl p) (put 4 ⟨[.d (.int .i64 w.kind),.d (.st w.text),.d (.int .i64 w.num),.d (.int .i64 w.pos),.d (.imm (.slice none 0 0))],100⟩ nix),put 22 (5,100,ds) nix⟩
theorem zvk:OK Tryz.prog 159 (refP (fun _=>True) (fun xs=>.d (.sl 5 (qze xs) false)) Lg.args []):=by
 refine fn_OK' qzu (E:=(EO 22)) (sp:=spL [(54,zq6),(52,rhas),(142,(refP (fun _=>True) (fun t=>.d (qx8 t)) Lg.term []))]) qzt qzl (OKs.ok ⟨qx1,⟨qxp,⟨zzo,trivial⟩⟩⟩) func159 rfl ntmps159 results159 call159 [1000] none ?_;rintro ys bx Kr Kp ⟨T,i,ts,deep,fl,a,rfl,hb,hA,hK⟩
 refine⟨[(1000,rbx T i deep fl a)],rfl,⟨by decide,hb,trivial⟩,by simp,?_⟩
 simp only[go_sem]
 rcases hK with⟨rfl,hK⟩|⟨hf,hK⟩
 · unfold Lg.args at hK;refine⟨_,T,i,ts,deep,0,a,rfl,rfl,hA,.inl ⟨rfl,qzf hK (fun p' c hc hE _ i' ts' hb' hA'=>?_) (fun _ ts1 i1 e hK hA1=>?_)⟩⟩
   · simp only[go_sem]
     (refine⟨T,i',ts',deep,c,p',_,rfl,rfl,hA',.inr ⟨hc,?_⟩⟩;simp only[go_sem])
     have hc':(c != 0)=true:=by simpa using hc
     simp only[rbx,hc',go_sem];exact⟨_,qzb (.nil _ _),hE [] i' trivial ⟨ts',hA'⟩⟩
   · simp only[go_sem]
     refine⟨T,i1,ts1,deep,0,a,Lg.sRpar,rfl,rfl,hA1,.inl ⟨rfl,fun h=>?_,fun h=>?_⟩⟩
     ·rw[if_pos h]at hK;simp only[go_sem];exact⟨_,qzb (.nil _ _),hK _ (hA1.isT h)⟩
     · rw[if_neg (qzg h),qwp]at hK;simp only[rbx,go_sem];refine⟨T,i1,ts1,deep,0,a,rfl,rfl,hA1,.inl ⟨rfl,qzf hK (fun p' c hc hE v i' ts' hb' hA'=>?_) (fun v ts2 i2 e hK hA2=>?_)⟩⟩
       · simp only[go_sem]
         refine qzj (T:=Unit) (fun _=>argSt T deep [qx8 v] v i' c p') (fun _=>0) ()
          (zsub (sP3 qza) (sP2 qza) (sP1 qza)) ?_
         rintro⟨⟩;dsimp only[argSt];simp only[go_sem]
         (refine⟨T,i',ts',deep,c,p',_,rfl,rfl,hA',.inr ⟨hc,?_⟩⟩;simp only[go_sem])
         (refine⟨_,T,i',ts',deep,c,p',rfl,rfl,hA',.inr ⟨hc,fun _ _=>?_⟩⟩;simp only[go_sem])
         exact⟨_,qzb (qzo (ts:=[qqj v]) (.cons (qqd v) .nil)),hE [qqj v] i' trivial ⟨ts',hA'⟩⟩
       · have hv:=qxx e;simp only[go_sem]
         refine qzj (T:={q:List D×Tree×Nat×List Tok×List Tree //At T q.2.2.1 q.2.2.2.1/\qx7 q.1 q.2.2.2.2/\q.2.2.2.2.length+q.2.2.2.1.length<=2097152/\refQ T deep a (fun _=>True) (fun xs=>.d (.sl 5 (qze xs) false)) Kr (qj8 Lg.term argK q.2.2.2.2 q.2.2.2.1)} ⊕
           {q:List D×Tree×Nat×Int×Int×List Tree //q.2.2.2.1≠0/\(∃ts,At T q.2.2.1 ts)/\qx7 q.1 q.2.2.2.2.2/\flQ T deep (fun _=>True) (fun xs=>.d (.sl 5 (qze xs) false)) Kr q.2.2.2.1 q.2.2.2.2.1})
          (fun q=>match q with
            |.inl q=>argSt T deep q.1.1 q.1.2.1 q.1.2.2.1 0 a
            |.inr q=>argSt T deep q.1.1 q.1.2.1 q.1.2.2.1 q.1.2.2.2.1 q.1.2.2.2.2.1)
          (fun q=>match q with|.inl q=>q.1.2.2.2.1.length+1|.inr _=>0) (.inl ⟨([qx8 v],v,i2,ts2,[v]),hA2,.cons (qxe hv) .nil,?_,hK⟩)
          (zsub (sP3 qza) (sP2 qza) (sP1 qza)) ?_
         · have h1:=Lg.qxy _ _ _ e;have h2:=hA1.2.1.2
           show 1+ts2.length<=2097152
           omega
         rintro(⟨⟨ds,w,i3,ts3,acc⟩,hA3',hS',hn',hK'⟩|⟨⟨ds,w,i3,c,p',acc⟩,hc',hA3',hS',hE'⟩)
         · have hA3:At T i3 ts3:=hA3';have hS:qx7 ds acc:=hS';have hn:acc.length+ts3.length<=2097152:=hn';replace hK:refQ T deep a (fun _=>True) (fun xs=>.d (.sl 5 (qze xs) false)) Kr (qj8 Lg.term argK acc ts3):=hK';dsimp only[argSt];clear hA3' hS' hn' hK';simp only[go_sem]
           refine⟨T,i3,ts3,deep,0,a,Lg.sComma,rfl,rfl,hA3,.inl ⟨rfl,fun h=>?_,fun h=>?_⟩⟩
           · rw[qq7 Lg.qxy h]at hK;simp only[go_sem];have hl:=hS.len;refine⟨T,i3+1,ts3.tail,deep,0,a,rfl,rfl,hA3.isT h,.inl ⟨rfl,qzf hK (fun p' c hc hE x i' ts' hb' hA'=>?_) (fun x ts4 i4 e hK hA4=>?_)⟩⟩
             · simp only[go_sem]
               refine⟨by omega,by omega,⟨.inr ⟨(ds++[qx8 x],x,i',c,p',acc++[qqj x]),hc,⟨ts',hA'⟩,hS.snoc (qqd x),hE⟩,zsub (sP2 (qzd (by simp[put]) qza)) (sP2 qza) (sP1 qza),Nat.succ_pos _⟩⟩
             · have hx:=qxx e;have h1:=Lg.qxy _ _ _ e;have h2:ts3.tail.length<ts3.length:=zk3 (fun h=>by have:=hA3.2.1.cons;obtain⟨t,l,rfl⟩:=this;simp at h);simp only[go_sem]
               refine⟨by omega,by omega,⟨.inl ⟨(ds++[qx8 x],x,i4,ts4,acc++[x]),hA4,hS.snoc (qxe hx),by rw[lC,List.length_singleton];show acc.length+1+ts4.length<=2097152;omega,hK⟩,zsub (sP2 (qzd (by simp[put]) qza)) (sP2 qza) (sP1 qza),by show ts4.length+1<ts3.length+1;omega⟩⟩
           · rw[qxz h]at hK;simp only[go_sem];refine⟨_,T,i3,ts3,deep,0,a,rfl,rfl,hA3,.inl ⟨rfl,qzf hK (fun p' c hc hE _ i' ts' hb' hA'=>?_) (fun _ ts4 i4 e hK hA4=>?_)⟩⟩
             ·simp only[go_sem];exact⟨_,qzb (qzo hS),hE acc i' trivial ⟨ts',hA'⟩⟩
             ·simp only[go_sem];exact⟨_,qzb (qzo hS),hK i4 hA4⟩
         · have hc:c≠0:=hc';obtain⟨ts',hA'0⟩:=hA3';have hA':At T i3 ts':=hA'0;have hS:qx7 ds acc:=hS';have hE:flQ T deep (fun _=>True) (fun xs=>.d (.sl 5 (qze xs) false)) Kr c p':=hE';dsimp only[argSt];clear hc' hA'0 hS' hE';simp only[go_sem];refine⟨T,i3,ts',deep,c,p',_,rfl,rfl,hA',.inr ⟨hc,?_⟩⟩;simp only[go_sem]
           refine⟨_,T,i3,ts',deep,c,p',rfl,rfl,hA',.inr ⟨hc,fun _ _=>?_⟩⟩
           simp only[go_sem];exact⟨_,qzb (qzo hS),hE acc i3 trivial ⟨ts',hA'⟩⟩
 · (refine⟨_,T,i,ts,deep,fl,a,rfl,rfl,hA,.inr ⟨hf,fun _ _=>?_⟩⟩;simp only[go_sem])
   (refine⟨T,i,ts,deep,fl,a,_,rfl,rfl,hA,.inr ⟨hf,?_⟩⟩;simp only[go_sem])
   have hf':(fl != 0)=true:=by simpa using hf
   simp only[rbx,hf',go_sem];exact⟨_,qzb (.nil _ _),hK [] trivial⟩
end Lx
