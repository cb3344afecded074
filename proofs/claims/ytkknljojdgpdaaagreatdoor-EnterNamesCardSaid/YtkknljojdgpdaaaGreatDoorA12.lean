import Derived.Test.YtkknljojdgpdaaaGreatDoorA10
import Derived.Test.YtkknljojdgpdaaaGreatDoorA00
set_option maxHeartbeats 32000000
set_option linter.unusedSimpArgs false
set_option linter.unusedVariables false
set_option maxRecDepth 20000
namespace Lx
open Go
open Lg (Tok Tree)
open Go.Proofs (Tryz.prog)
open Go.Proofs.Tryz
theorem qzg {s:List UInt8}{ts:List Tok}(h:Lg.isT s ts=false):¬Lg.isT s ts=true:=by rw[h];decide
def moreS:Spec:=fun ys bx Kr Kp=>∃n,parS qzr (Lg.more n) [.d (qzr n)] ys bx Kr Kp
theorem more_OK:OK Tryz.prog 156 moreS:=by
 refine fn_OK' qzu (E:=EV) (sp:=spL [(43,hasS),(155,numsS)]) qzt qzl (OKs.ok ⟨qjl,⟨qwn,trivial⟩⟩) func156 rfl ntmps156 results156 call156 [1000] none ?_;rintro ys bx Kr Kp ⟨n,ts,deep,rfl,hb,hg,hK⟩
 refine⟨[(1000,pbox ts deep)],rfl,⟨by decide,hb,trivial⟩,by simp,?_⟩
 obtain⟨k,t,m,p,ks⟩:=n;simp only[go_sem];unfold Lg.more at hK
 refine⟨ts,deep,Lg.sPlus,rfl,rfl,hg,fun h=>?_,fun h=>?_⟩
 · rw[if_pos h]at hK;simp only[go_sem];refine⟨1,.inl rfl,ts.tail,deep,rfl,rfl,hg.isT h,?_⟩;refine qzi hK (fun a c h ts' d'=>?_) (fun v ts' e hK hg'=>?_)
   ·simp only[go_sem];exact h ts' d'
   ·simp only[go_sem];exact⟨_,qzb (qzc (.rfl _)),hK hg'⟩
 · rw[if_neg (qzg h)]at hK;simp only[go_sem]
   refine⟨ts,deep,Lg.sMinus,rfl,rfl,hg,fun h=>?_,fun h=>?_⟩
   · rw[if_pos h]at hK;simp only[go_sem];refine⟨-1,.inr rfl,ts.tail,deep,rfl,rfl,hg.isT h,?_⟩;refine qzi hK (fun a c h ts' d'=>?_) (fun v ts' e hK hg'=>?_)
     ·simp only[go_sem];exact h ts' d'
     ·simp only[go_sem];exact⟨_,qzb (qzc (.rfl _)),hK hg'⟩
   ·rw[if_neg (qzg h)]at hK;simp only[go_sem];exact⟨_,qzb (qzc (.rfl _)),hK hg⟩
theorem zxq:OK Tryz.prog 126 (parS qzr Lg.term []):=by
 refine fn_OK' qzu (E:=EV) (sp:=spL [(42,zqg),(43,hasS),(155,numsS),(81,(parS qzr Lg.name [])),(156,moreS)]) qzt qzl (OKs.ok ⟨qjo,⟨qjl,⟨qwn,⟨qk8,⟨more_OK,trivial⟩⟩⟩⟩⟩) func126 rfl ntmps126 results126 call126 [1000] none ?_;rintro ys bx Kr Kp ⟨ts,deep,rfl,hb,hg,hK⟩
 refine⟨[(1000,pbox ts deep)],rfl,⟨by decide,hb,trivial⟩,by simp,?_⟩
 unfold Lg.term at hK;simp only[go_sem];refine⟨ts,deep,rfl,rfl,hg,?_⟩;simp only[go_sem];refine⟨ts,deep,rfl,rfl,hg,?_⟩;simp only[go_sem]
 refine⟨fun h=>?_,fun h=>?_⟩
 · rw[if_pos (by simpa using h)]at hK;refine⟨1,.inl rfl,ts,deep,rfl,rfl,hg,?_⟩;refine qzi hK (fun a c h ts' d'=>?_) (fun v ts' e hK hg'=>?_)
   ·simp only[go_sem];exact h ts' d'
   ·simp only[go_sem];exact⟨_,qzb (qzc qqp),hK hg'⟩
 · rw[if_neg (by simpa using h)]at hK
   refine⟨ts,deep,Lg.sMinus,rfl,rfl,hg,fun h=>?_,fun h=>?_⟩
   · rw[if_pos h]at hK;simp only[go_sem];refine⟨-1,.inr rfl,ts.tail,deep,rfl,rfl,hg.isT h,?_⟩;refine qzi hK (fun a c h ts' d'=>?_) (fun v ts' e hK hg'=>?_)
     ·simp only[go_sem];exact h ts' d'
     ·simp only[go_sem];exact⟨_,qzb (qzc qqp),hK hg'⟩
   · rw[if_neg (qzg h)]at hK;simp only[go_sem];refine⟨ts,deep,rfl,rfl,hg,?_⟩;refine qzi hK (fun a c h ts' d'=>?_) (fun n ts' e hK hg'=>?_)
     ·simp only[go_sem];exact h ts' d'
     · simp only[go_sem];refine⟨n,ts',deep,rfl,rfl,hg',?_⟩;refine qq5 hK (fun a c h ts' d'=>?_) (fun v ts' e hK hg'=>?_)
       ·simp only[go_sem];exact h ts' d'
       ·simp only[go_sem];exact⟨_,qzb (qzk v),hK hg'⟩
def zjj (ts:List Tok):Nat->Lg.PR (List UInt8)
 |0=>Lg.cmp ts
 |1=>if Lg.isT Lg.sLe ts then .ok (Lg.sLe,ts.tail)else if Lg.isT Lg.sEq2 ts then .ok (Lg.sEq2,ts.tail)else Lg.flt 20 ts
 |2=>if Lg.isT Lg.sEq2 ts then .ok (Lg.sEq2,ts.tail)else Lg.flt 20 ts
 |_=>Lg.flt 20 ts
def nthT:Nat->List UInt8
 |0=>Lg.sLt
 |1=>Lg.sLe
 |_=>Lg.sEq2
theorem zku (ts:List Tok){i:Nat}(h:i<3):zjj ts i=if Lg.isT (nthT i) ts then .ok (nthT i,ts.tail)else zjj ts (i+1):=by
 match i,h with
 |0,_=>rfl
 |1,_=>rfl
 |2,_=>rfl
theorem cmp_OK:OK Tryz.prog 127 (parS (fun b=>.st b) Lg.cmp []):=by
 refine fn_OK' qzu (E:=EV) (sp:=spL [(43,hasS),(84,failS)]) qzt qzl (OKs.ok ⟨qjl,⟨zzd,trivial⟩⟩) func127 rfl ntmps127 results127 call127 [1000] none ?_;rintro ys bx Kr Kp ⟨ts,deep,rfl,hb,hg,hK⟩
 refine⟨[(1000,pbox ts deep)],rfl,⟨by decide,hb,trivial⟩,by simp,?_⟩
 simp only[go_sem]
 refine qzj (T:={i:Nat //i<=3/\post (zjj ts i) (fun x ts'=>Good ts'->Kr (.d (.st x)) (put 1000 (pbox ts' deep) nix) none) (fun a c=>∀ts' d',Kp (.ifc 145 (.ag [.int .i64 a,.int .i64 c])) (put 1000 (pbox ts' d') nix))})
  (fun i=>⟨16,put 0 (.bp 1000 0) (put 5 (.d (.ag [.st [60],.st [60,61],.st [61,61]])) (put 6 (.d (.int .i64 i.1)) nix)),put 1000 (pbox ts deep) nix,nix⟩) (fun i=>3-i.1) ⟨0,by omega,hK⟩
  ⟨rfl,sP3 qza,sP1 qza,fun _ _ h=>h⟩ ?_
 rintro⟨i,hi,hK⟩;simp only[go_sem]
 refine⟨fun h=>?_,fun h=>?_⟩
 · have h3:i<3:=by have:=lF h;omega
   have e:([.d (.st [60]),.d (.st [60,61]),.d (.st [61,61])]:List LV)[(i:Int).toNat*1]?=some (.d (.st (nthT i))):=by
    match i,h3 with
    |0,_=>rfl
    |1,_=>rfl
    |2,_=>rfl
   refine⟨by omega,by omega,sm_use e ?_⟩
   rw[zku ts h3]at hK;simp only[go_sem]
   refine⟨ts,deep,nthT i,rfl,rfl,hg,fun h=>?_,fun h=>?_⟩
   ·rw[if_pos h]at hK;simp only[go_sem];exact⟨_,qzb (.rfl _),hK (hg.isT h)⟩
   · rw[if_neg (qzg h)]at hK;simp only[go_sem]
     exact⟨⟨by omega,by omega⟩,⟨i+1,by omega,hK⟩,⟨rfl,sP3 qza,sP1 qza,fun _ _ h=>h⟩,by show 3-(i+1)<3-i;omega⟩
 · have h3:i=3:=by have:=lG h;omega
   subst h3;refine⟨ts,deep,20,rfl,rfl,hg,?_⟩;simp only[go_sem];exact hK ts deep
abbrev EO (d:Nat):Env:=mkE false (fun j=>j==d) (fun _=>true)
abbrev zvs (f:Nat)(one:List Tok->Lg.PR Tree):Spec:=parS (fun xs=>.sl 5 (qze xs) false) (Lg.list one) [.fn (.func f) [.bp 1000 0] []]
theorem list_OK (f:Nat)(hf:f≠43)(one:List Tok->Lg.PR Tree)(hone:∀ts x ts',one ts=.ok (x,ts')->ts'.length<ts.length)(hOK:OK Tryz.prog f (parS qzr one [])):OK Tryz.prog 82 (zvs f one):=by
 refine fn_OK' qzu (E:=(EO 8)) (sp:=spL [(f,(parS qzr one [])),(43,hasS)]) qzt qzl (OKs.ok ⟨hOK,⟨qjl,trivial⟩⟩) func82 rfl ntmps82 results82 call82 [1000] none ?_;rintro ys bx Kr Kp ⟨ts,deep,rfl,hb,hg,hK⟩
 refine⟨[(1000,pbox ts deep)],rfl,⟨by decide,hb,trivial⟩,by simp,?_⟩
 have hf':¬(43=f):=fun e=>hf e.symm
 simp only[hf',go_sem];refine⟨ts,deep,rfl,rfl,hg,?_⟩;unfold Lg.list at hK;refine qzi hK (fun a c h ts' d'=>?_) (fun x ts1 e hK hg1=>?_)
 ·simp only[go_sem];exact h ts' d'
 · simp only[go_sem];have hl:=hone _ _ _ e;have hl0:=hg.2
   refine qzj (T:={t:List Tree×List Tok //Good t.2/\t.1.length+t.2.length<=2097152/\post (Lg.qxj one t.2) (fun xs ts'=>Good ts'->Kr (.d (.sl 5 (qze (t.1++xs)) false)) (put 1000 (pbox ts' deep) nix) none) (fun a c=>∀ts' d',Kp (.ifc 145 (.ag [.int .i64 a,.int .i64 c])) (put 1000 (pbox ts' d') nix))})
    (fun t=>⟨17,put 0 (.bp 1000 0) (put 1 (.fn (.func f) [.bp 1000 0] []) (put 5 (.os 8 5 t.1.1.length) nix)),put 1000 (pbox t.1.2 deep) nix,put 8 (5,92,qze t.1.1) nix⟩) (fun t=>t.1.2.length)
    ⟨([x],ts1),hg1,by simp only[lB,lH];omega,qzi hK (fun a c h=>h) (fun xs ts' e h=>h)⟩
    ⟨rfl,sP3 qza,sP1 qza,sP1 qza⟩ ?_
   rintro⟨⟨acc,ts2⟩,hg2,hb2,hK⟩;replace hg2:Good ts2:=hg2;replace hb2:acc.length+ts2.length<=2097152:=hb2
   replace hK:post (Lg.qxj one ts2) (fun xs ts'=>Good ts'->Kr (.d (.sl 5 (qze (acc++xs)) false)) (put 1000 (pbox ts' deep) nix) none) (fun a c=>∀ts' d',Kp (.ifc 145 (.ag [.int .i64 a,.int .i64 c])) (put 1000 (pbox ts' d') nix)):=hK
   simp only[hf',go_sem];rw[Lg.qxj]at hK
   refine⟨ts2,deep,Lg.sComma,rfl,rfl,hg2,fun h=>?_,fun h=>?_⟩
   · rw[if_pos h]at hK;simp only[go_sem];refine⟨ts2.tail,deep,rfl,rfl,hg2.isT h,?_⟩
     generalize e3:one ts2.tail=r at hK⊢
     cases r with
     |error p=>obtain⟨a,c⟩:=p;intro ts' d';simp only[go_sem];exact hK ts' d'
     |ok p=>
      obtain⟨y,ts3⟩:=p;intro hg3;have hl3:=hone _ _ _ e3
      have hl4:ts2.tail.length<=ts2.length:=by simp
      simp only[if_pos (show ts3.length<ts2.length by omega)]at hK;simp only[go_sem]
      refine⟨by omega,by omega,⟨(acc++[y],ts3),hg3,by simp only[lC,lB,lH];omega,qzi hK (fun _ _ h=>h) (fun xs ts' e h hg'=>?_)⟩,
       ⟨rfl,sP2 (qzd ?_ qza),sP1 qza,qzd ?_ qza⟩,?_⟩
      ·have h2:Kr (.d (.sl 5 (qze (acc++y::xs)) false)) (put 1000 (pbox ts' deep) nix) none:=h hg';simpa using h2
      ·simp[put]
      ·simp[put,qzp,qze]
      ·show ts3.length<ts2.length;omega
   ·rw[if_neg (qzg h)]at hK;simp only[go_sem];have h2:Kr (.d (.sl 5 (qze (acc++[])) false)) (put 1000 (pbox ts2 deep) nix) none:=hK hg2;rw[List.append_nil]at h2;exact⟨_,qzb (.rfl _),h2⟩
def parO {α:Type}(res:α->LV)(arr:α->List Tree)(f:List Tok->Lg.PR α)(args:List LV):Spec:=fun ys bx Kr Kp=>
 ∃ts deep,ys=.bp 1000 0::args/\bx 1000=some (pbox ts deep)/\Good ts/\
  post (f ts) (fun x ts'=>Good ts'->Kr (res x) (put 1000 (pbox ts' deep) nix) (some (5,92,qze (arr x)))) (fun a c=>∀ts' d',Kp (.ifc 145 (.ag [.int .i64 a,.int .i64 c])) (put 1000 (pbox ts' d') nix))
abbrev listO (f:Nat)(one:List Tok->Lg.PR Tree):Spec:=parO (fun xs=>.os 0 5 xs.length) id (Lg.list one) [.fn (.func f) [.bp 1000 0] []]
theorem listO_OK (f:Nat)(hf:f≠43)(one:List Tok->Lg.PR Tree)(hone:∀ts x ts',one ts=.ok (x,ts')->ts'.length<ts.length)(hOK:OK Tryz.prog f (parS qzr one [])):OK Tryz.prog 82 (listO f one):=by
 refine fn_OK' qzu (E:=(EO 8)) (sp:=spL [(f,(parS qzr one [])),(43,hasS)]) qzt qzl (OKs.ok ⟨hOK,⟨qjl,trivial⟩⟩) func82 rfl ntmps82 results82 call82 [1000] (some 8) ?_;rintro ys bx Kr Kp ⟨ts,deep,rfl,hb,hg,hK⟩
 refine⟨[(1000,pbox ts deep)],rfl,⟨by decide,hb,trivial⟩,by simp,?_⟩
 have hf':¬(43=f):=fun e=>hf e.symm
 simp only[hf',go_sem];refine⟨ts,deep,rfl,rfl,hg,?_⟩;unfold Lg.list at hK;refine qzi hK (fun a c h ts' d'=>?_) (fun x ts1 e hK hg1=>?_)
 ·simp only[go_sem];exact h ts' d'
 · simp only[go_sem];have hl:=hone _ _ _ e;have hl0:=hg.2
   refine qzj (T:={t:List Tree×List Tok //Good t.2/\t.1.length+t.2.length<=2097152/\post (Lg.qxj one t.2) (fun xs ts'=>Good ts'->Kr (.os 0 5 (t.1++xs).length) (put 1000 (pbox ts' deep) nix) (some (5,92,qze (t.1++xs)))) (fun a c=>∀ts' d',Kp (.ifc 145 (.ag [.int .i64 a,.int .i64 c])) (put 1000 (pbox ts' d') nix))})
    (fun t=>⟨17,put 0 (.bp 1000 0) (put 1 (.fn (.func f) [.bp 1000 0] []) (put 5 (.os 8 5 t.1.1.length) nix)),put 1000 (pbox t.1.2 deep) nix,put 8 (5,92,qze t.1.1) nix⟩) (fun t=>t.1.2.length)
    ⟨([x],ts1),hg1,by simp only[lB,lH];omega,qzi hK (fun a c h=>h) (fun xs ts' e h=>h)⟩
    ⟨rfl,sP3 qza,sP1 qza,sP1 qza⟩ ?_
   rintro⟨⟨acc,ts2⟩,hg2,hb2,hK⟩;replace hg2:Good ts2:=hg2;replace hb2:acc.length+ts2.length<=2097152:=hb2;replace hK:post (Lg.qxj one ts2) (fun xs ts'=>Good ts'->Kr (.os 0 5 (acc++xs).length) (put 1000 (pbox ts' deep) nix) (some (5,92,qze (acc++xs)))) (fun a c=>∀ts' d',Kp (.ifc 145 (.ag [.int .i64 a,.int .i64 c])) (put 1000 (pbox ts' d') nix)):=hK;simp only[hf',go_sem];rw[Lg.qxj]at hK
   refine⟨ts2,deep,Lg.sComma,rfl,rfl,hg2,fun h=>?_,fun h=>?_⟩
   · rw[if_pos h]at hK;simp only[go_sem];refine⟨ts2.tail,deep,rfl,rfl,hg2.isT h,?_⟩
     generalize e3:one ts2.tail=r at hK⊢
     cases r with
     |error p=>obtain⟨a,c⟩:=p;intro ts' d';simp only[go_sem];exact hK ts' d'
     |ok p=>
      obtain⟨y,ts3⟩:=p;intro hg3;have hl3:=hone _ _ _ e3
      have hl4:ts2.tail.length<=ts2.length:=by simp
      simp only[if_pos (show ts3.length<ts2.length by omega)]at hK;simp only[go_sem]
      refine⟨by omega,by omega,⟨(acc++[y],ts3),hg3,by simp only[lC,lB,lH];omega,qzi hK (fun _ _ h=>h) (fun xs ts' e h hg'=>?_)⟩,
       ⟨rfl,sP2 (qzd ?_ qza),sP1 qza,qzd ?_ qza⟩,?_⟩
      ·have h2:Kr (.os 0 5 (acc++y::xs).length) (put 1000 (pbox ts' deep) nix) (some (5,92,qze (acc++y::xs))):=h hg';simpa using h2
      ·simp[put]
      ·simp[put,qzp,qze]
      ·show ts3.length<ts2.length;omega
   ·rw[if_neg (qzg h)]at hK;simp only[go_sem];have h2:Kr (.os 0 5 (acc++[]).length) (put 1000 (pbox ts2 deep) nix) (some (5,92,qze (acc++[]))):=hK hg2;rw[List.append_nil]at h2;exact h2
end Lx
namespace Lg
def Eats {α:Type}(r:PR α)(n:Nat):Prop:=∀x ts',r=.ok (x,ts')->ts'.length<n
def zq9 {α:Type}(r:PR α)(n:Nat):Prop:=∀x ts',r=.ok (x,ts')->ts'.length<=n
variable {α β:Type}
theorem Eats.keeps {r:PR α}{n:Nat}(h:Eats r n):zq9 r n:=fun x ts' e=>Nat.le_of_lt (h x ts' e)
theorem zq9.eats {r:PR α}{n m:Nat}(h:zq9 r n)(hm:n<m):Eats r m:=fun x ts' e=>Nat.lt_of_le_of_lt (h x ts' e) hm
theorem Eats.mono {r:PR α}{n m:Nat}(h:Eats r n)(hm:n<=m):Eats r m:=fun x ts' e=>Nat.lt_of_lt_of_le (h x ts' e) hm
theorem zq9.mono {r:PR α}{n m:Nat}(h:zq9 r n)(hm:n<=m):zq9 r m:=fun x ts' e=>Nat.le_trans (h x ts' e) hm
theorem qwr (e:Int×Int)(n:Nat):Eats (.error e:PR α) n:=fun x ts' h=>by cases h
theorem keeps_error (e:Int×Int)(n:Nat):zq9 (.error e:PR α) n:=fun x ts' h=>by cases h
theorem qve (c:Int)(ts:List Tok)(n:Nat):Eats (flt c ts:PR α) n:=qwr _ n
theorem qz3 (x:α){ts:List Tok}{n:Nat}(h:ts.length<=n):zq9 (.ok (x,ts)) n:=fun y ts' e=>by
 simp only[Except.ok.injEq,Prod.mk.injEq]at e;obtain⟨_,rfl⟩:=e;exact h
theorem qvd (x:α){ts:List Tok}{n:Nat}(h:ts.length<n):Eats (.ok (x,ts)) n:=fun y ts' e=>by
 simp only[Except.ok.injEq,Prod.mk.injEq]at e;obtain⟨_,rfl⟩:=e;exact h
theorem Eats.bnd {r:PR α}{f:α->List Tok->PR β}{n:Nat}(h:Eats r n)(hf:∀x ts,zq9 (f x ts) ts.length):Eats (bnd r f) n:=by
 cases r with
 |error e=>exact qwr e n
 |ok p=>obtain⟨x,ts⟩:=p;exact(hf x ts).eats (h x ts rfl)
theorem zq9.bnd {r:PR α}{f:α->List Tok->PR β}{n:Nat}(h:zq9 r n)(hf:∀x ts,zq9 (f x ts) ts.length):zq9 (bnd r f) n:=by
 cases r with
 |error e=>exact keeps_error e n
 |ok p=>obtain⟨x,ts⟩:=p;exact(hf x ts).mono (h x ts rfl)
theorem zk3 {ts:List Tok}(h:ts≠[]):ts.tail.length<ts.length:=by
 cases ts with
 |nil=>exact absurd rfl h
 |cons t l=>simp
theorem qz4 (ts:List Tok):ts.tail.length<=ts.length:=by simp
theorem isT_ne {s:Bs}{ts:List Tok}(h:isT s ts=true):ts≠[]:=by
 rintro rfl;simp only[isT,hd,List.headD_nil]at h
 have:((default:Tok).kind==2||(default:Tok).kind==4)=false:=by decide
 rw[this]at h;cases h
theorem qxa {s:Bs}{ts:List Tok}(h:isT s ts=true):ts.tail.length<ts.length:=zk3 (isT_ne h)
theorem qqn (s:Bs)(ts:List Tok):Eats (must s ts) ts.length:=by
 unfold must;split
 ·rename_i h;exact qvd _ (qxa h)
 ·exact qve _ _ _
theorem zwx {k:Int}(hk:k≠0)(ts:List Tok):Eats (take k ts) ts.length:=by
 unfold take;split
 ·rename_i h;refine qvd _ (zk3 ?_);rintro rfl;exact hk (by rw[<-h];decide)
 ·exact qve _ _ _
theorem qql (ts:List Tok):Eats (name ts) ts.length:=(zwx (by decide) ts).bnd fun _ _=>qz3 _ (Nat.le_refl _)
theorem qxr (n:Int)(ts:List Tok):Eats (zzr n ts) ts.length:=(zwx (by decide) ts).bnd fun _ _=>qz3 _ (Nat.le_refl _)
theorem zqi (n:Tree)(ts:List Tok):zq9 (more n ts) ts.length:=by
 unfold more;split
 ·exact(((qxr 1 _).bnd fun _ _=>qz3 _ (Nat.le_refl _)).mono (qz4 ts)).keeps
 · split
   ·exact(((qxr _ _).bnd fun _ _=>qz3 _ (Nat.le_refl _)).mono (qz4 ts)).keeps
   ·exact qz3 _ (Nat.le_refl _)
theorem qxy (ts:List Tok):Eats (term ts) ts.length:=by
 unfold term;split
 ·exact(qxr 1 _).bnd fun _ _=>qz3 _ (Nat.le_refl _)
 · split
   ·exact((qxr _ _).bnd fun _ _=>qz3 _ (Nat.le_refl _)).mono (qz4 ts)
   ·exact(qql ts).bnd fun n ts=>zqi n ts
theorem cmp_eats (ts:List Tok):Eats (cmp ts) ts.length:=by
 unfold cmp;split
 ·rename_i h;exact qvd _ (qxa h)
 · split
   ·rename_i h;exact qvd _ (qxa h)
   · split
     ·rename_i h;exact qvd _ (qxa h)
     ·exact qve _ _ _
theorem fact_eats (ts:List Tok):Eats (fact ts) ts.length:=
 (qxy ts).bnd fun _ ts=>((cmp_eats ts).bnd fun _ ts=>((qxy ts).bnd fun _ _=>qz3 _ (Nat.le_refl _)).keeps).keeps
theorem field_eats (ts:List Tok):Eats (field ts) ts.length:=
 (qql ts).bnd fun _ ts=>by
   split
   ·exact((((qql _).bnd fun _ ts=>((qqn _ ts).bnd fun _ _=>qz3 _ (Nat.le_refl _)).keeps)).mono (qz4 ts)).keeps
   ·exact qz3 _ (Nat.le_refl _)
theorem mode_eats (ts:List Tok):Eats (mode ts) ts.length:=by
 unfold mode;split
 ·rename_i h;exact qvd _ (qxa h)
 · split
   ·exact((qql _).bnd fun _ _=>qz3 _ (Nat.le_refl _)).mono (qz4 ts)
   · refine(qqn _ ts).bnd fun _ ts=>?_
     split
     ·exact(((qql _).bnd fun _ _=>qz3 _ (Nat.le_refl _)).mono (qz4 ts)).keeps
     ·exact((qql _).bnd fun _ _=>qz3 _ (Nat.le_refl _)).keeps
theorem param_eats (ts:List Tok):Eats (param ts) ts.length:=
 (qql ts).bnd fun _ ts=>((qqn _ ts).bnd fun _ ts=>((mode_eats ts).bnd fun _ _=>qz3 _ (Nat.le_refl _)).keeps).keeps
theorem name_eq {ts ts':List Tok}{n:Tree}(h:name ts=.ok (n,ts')):n=.node 5 n.text 0 n.pos []:=by
 unfold name bnd at h;split at h
 ·cases h
 ·simp only[Except.ok.injEq,Prod.mk.injEq]at h;obtain⟨rfl,_⟩:=h;rfl
theorem listTail_len {one:List Tok->PR Tree}(hone:∀ts x ts',one ts=.ok (x,ts')->ts'.length<ts.length)(n:Nat):∀(ts:List Tok),ts.length=n->∀xs ts',qxj one ts=.ok (xs,ts')->xs.length+ts'.length<=ts.length:=by
 induction n using Nat.strongRecOn with
 |_ n ih=>
  intro ts hn xs ts' h;rw[qxj]at h;split at h
  · split at h
    ·cases h
    · rename_i x ts1 e;have h1:=hone _ _ _ e;have h2:=qz4 ts;split at h
      · rename_i hlt;unfold bnd at h;split at h
        ·cases h
        ·rename_i ys ts2 e2;have:=ih ts1.length (by omega) ts1 rfl ys ts2 e2;simp only[Except.ok.injEq,Prod.mk.injEq]at h;obtain⟨rfl,rfl⟩:=h;simp only[lB];omega
      ·cases h
  ·simp only[Except.ok.injEq,Prod.mk.injEq]at h;obtain⟨rfl,rfl⟩:=h;simp
theorem qzs {r:PR α}{f:α->List Tok->PR β}{y:β×List Tok}(h:bnd r f=.ok y):∃x ts,r=.ok (x,ts)/\f x ts=.ok y:=by
 cases r with
 |error e=>cases h
 |ok p=>obtain⟨x,ts⟩:=p;exact⟨x,ts,rfl,h⟩
theorem zjg {ts ts':List Tok}{n:Tree}(h:fact ts=.ok (n,ts')):n.kids.length=2:=by
 obtain⟨a,ts1,_,h⟩:=qzs h;obtain⟨op,ts2,_,h⟩:=qzs h;obtain⟨b,ts3,_,h⟩:=qzs h;simp only[Except.ok.injEq,Prod.mk.injEq]at h;obtain⟨rfl,_⟩:=h;rfl
theorem branch_kids {block:List Tok->PR Tree}{k at_:Int}{ts ts':List Tok}{n:Tree}(h:zkx block k at_ ts=.ok (n,ts')):n.kids.length=3:=by
 obtain⟨a,ts1,e,h⟩:=qzs h;obtain⟨b,ts2,_,h⟩:=qzs h;simp only[Except.ok.injEq,Prod.mk.injEq]at h;obtain⟨rfl,_⟩:=h;have:=zjg e;simp[Tree.kids]at this⊢;exact this
theorem list_len {one:List Tok->PR Tree}(hone:∀ts x ts',one ts=.ok (x,ts')->ts'.length<ts.length){ts ts':List Tok}{xs:List Tree}(h:list one ts=.ok (xs,ts')):xs.length+ts'.length<=ts.length/\xs≠[]:=by
 obtain⟨x,ts1,e,h⟩:=qzs h;obtain⟨ys,ts2,e2,h⟩:=qzs h;have h1:=hone _ _ _ e;have:=listTail_len hone _ ts1 rfl ys ts2 e2;simp only[Except.ok.injEq,Prod.mk.injEq]at h;obtain⟨rfl,rfl⟩:=h
 exact⟨by simp only[lB];omega,by simp⟩
theorem zzw {one:List Tok->PR Tree}(hone:∀ts x ts',one ts=.ok (x,ts')->ts'.length<ts.length)(ts:List Tok):Eats (list one ts) ts.length:=fun xs ts' h=>by
 obtain⟨h1,h2⟩:=list_len hone h
 cases xs with
 |nil=>exact absurd rfl h2
 |cons x xs=>simp only[lB]at h1;omega
theorem zjs (ts:List Tok):Eats (args ts) ts.length:=
 (qqn _ ts).bnd fun _ ts=>by
   split
   ·exact qz3 _ (qz4 ts)
   ·exact((zzw qxy ts).bnd fun _ ts=>((qqn _ ts).bnd fun _ _=>qz3 _ (Nat.le_refl _)).keeps).keeps
theorem qxv (n:Tree)(ts:List Tok):Eats (zjh n ts) ts.length:=(qqn _ ts).bnd fun _ _=>qz3 _ (Nat.le_refl _)
theorem qw8 (k:Int)(ts:List Tok):Eats (nameAt k ts) ts.length:=
 (qql ts).bnd fun _ ts=>((qqn _ ts).bnd fun _ ts=>((qxr _ ts).bnd fun _ ts=>((qqn _ ts).bnd fun _ _=>qz3 _ (Nat.le_refl _)).keeps).keeps).keeps
theorem sort_eats (ts:List Tok):Eats (sort ts) ts.length:=by
 unfold sort;split
 ·rename_i h;exact qvd _ (qxa h)
 · split
   ·rename_i h;exact qvd _ (qxa h)
   · split
     ·exact((qql _).bnd fun _ _=>qz3 _ (Nat.le_refl _)).mono (qz4 ts)
     ·exact qve _ _ _
theorem expr_eats (ts:List Tok):Eats (expr ts) ts.length:=by
 unfold expr;split
 ·exact((qxr _ _).bnd fun _ _=>qz3 _ (Nat.le_refl _)).mono (qz4 ts)
 · split
   ·exact((qql _).bnd fun _ _=>qz3 _ (Nat.le_refl _)).mono (qz4 ts)
   · split
     · split
       ·exact((qql _).bnd fun _ _=>qz3 _ (Nat.le_refl _)).mono (Nat.le_trans (qz4 _) (qz4 ts))
       ·exact((qql _).bnd fun _ _=>qz3 _ (Nat.le_refl _)).mono (qz4 ts)
     · split
       ·exact qxy ts
       · refine(qql ts).bnd fun n ts=>?_
         split
         ·exact((zjs ts).bnd fun _ _=>qz3 _ (Nat.le_refl _)).keeps
         · split
           ·exact(((qxy _).bnd fun _ ts=>((qqn _ ts).bnd fun _ _=>qz3 _ (Nat.le_refl _)).keeps).mono (qz4 ts)).keeps
           · split
             ·exact(((qql _).bnd fun _ _=>qz3 _ (Nat.le_refl _)).mono (qz4 ts)).keeps
             · split
               ·exact(((qql _).bnd fun _ _=>qz3 _ (Nat.le_refl _)).mono (qz4 ts)).keeps
               ·exact zqi n ts
theorem named_eats (n:Tree)(ts:List Tok):Eats (named n ts) ts.length:=by
 unfold named;split
 ·exact(zjs ts).bnd fun _ _=>qz3 _ (Nat.le_refl _)
 · split
   ·exact((qxy _).bnd fun _ ts=>((qqn _ ts).bnd fun _ ts=>((qqn _ ts).bnd fun _ ts=>((qxy ts).bnd fun _ _=>qz3 _ (Nat.le_refl _)).keeps).keeps).keeps).mono (qz4 ts)
   ·exact(qqn _ ts).bnd fun _ ts=>((expr_eats ts).bnd fun _ _=>qz3 _ (Nat.le_refl _)).keeps
def EatsF {α:Type}(f:List Tok->PR α):Prop:=∀ts,Eats (f ts) ts.length
theorem zjm {block:List Tok->PR Tree}(hb:EatsF block)(k at_:Int)(ts:List Tok):Eats (zkx block k at_ ts) ts.length:=
 (fact_eats ts).bnd fun _ ts=>((hb ts).bnd fun _ _=>qz3 _ (Nat.le_refl _)).keeps
theorem stmt_eats {block:List Tok->PR Tree}(hb:EatsF block)(ts:List Tok):Eats (stmt block ts) ts.length:=by
 unfold stmt;split
 ·exact((qql _).bnd fun n ts=>(qxv _ ts).keeps).mono (qz4 ts)
 split
 ·exact((qw8 _ _).bnd fun n ts=>(qxv _ ts).keeps).mono (qz4 ts)
 split
 ·exact((qw8 _ _).bnd fun n ts=>(qxv _ ts).keeps).mono (qz4 ts)
 split
 · refine((zjm hb _ _ _).bnd fun n ts=>?_).mono (qz4 ts);split
   ·exact(((hb _).bnd fun _ _=>qz3 _ (Nat.le_refl _)).mono (qz4 ts)).keeps
   ·exact qz3 _ (Nat.le_refl _)
 split
 ·exact(zjm hb _ _ _).mono (qz4 ts)
 split
 · split
   ·exact(qxv _ _).mono (qz4 ts)
   ·exact((qxy _).bnd fun _ ts=>(qxv _ ts).keeps).mono (qz4 ts)
 split
 ·exact(qxv _ _).mono (qz4 ts)
 split
 ·exact((qql _).bnd fun n ts=>((zjs ts).bnd fun _ ts=>(qxv _ ts).keeps).keeps).mono (qz4 ts)
 ·exact(qql ts).bnd fun n ts=>((named_eats n ts).bnd fun _ ts=>(qxv _ ts).keeps).keeps
theorem stmts_eats {one:List Tok->PR Tree}(n:Nat):∀(ts:List Tok),ts.length=n->Eats (stmts one ts) ts.length:=by
 induction n using Nat.strongRecOn with
 |_ n ih=>
  intro ts hn;rw[stmts];split
  ·rename_i h;exact qvd _ (qxa h)
  · split
    ·exact qwr _ _
    · rename_i x ts1 e;split
      ·rename_i hlt;exact((ih ts1.length (by omega) ts1 rfl).bnd fun _ _=>qz3 _ (Nat.le_refl _)).mono (by omega)
      ·exact qwr _ _
theorem block_eats:∀n,EatsF (block n)
 |0=>fun ts=>by
  rw[block];split
  ·exact qve _ _ _
  ·exact qve _ _ _
 |n+1=>fun ts=>by
  rw[block]
  exact(qqn _ ts).bnd fun _ ts=>((stmts_eats _ ts rfl).bnd fun _ _=>qz3 _ (Nat.le_refl _)).keeps
theorem zzk (n:Tree)(ts:List Tok):Eats (qxw n ts) ts.length:=by
 unfold qxw;split
 ·exact((zzw fact_eats _).bnd fun _ ts=>((qqn _ ts).bnd fun _ _=>qz3 _ (Nat.le_refl _)).keeps).mono (qz4 ts)
 ·exact(qqn _ ts).bnd fun _ _=>qz3 _ (Nat.le_refl _)
theorem typ_eats (at_:Int)(ts:List Tok):Eats (typ at_ ts) ts.length:=
 (qql ts).bnd fun n ts=>((sort_eats ts).bnd fun s ts=>by
   split
   ·exact(((zzw field_eats _).bnd fun _ ts=>((qqn _ ts).bnd fun _ ts=>(zzk _ ts).keeps).keeps).mono (qz4 ts)).keeps
   ·exact(zzk _ ts).keeps).keeps
theorem zv7 (ts:List Tok):Eats (zxi ts) ts.length:=
 (qqn _ ts).bnd fun _ ts=>by
   split
   ·exact qz3 _ (qz4 ts)
   ·exact((zzw param_eats ts).bnd fun _ ts=>((qqn _ ts).bnd fun _ _=>qz3 _ (Nat.le_refl _)).keeps).keeps
theorem fnRet_keeps (ts:List Tok):zq9 (fnRet ts) ts.length:=by
 unfold fnRet;split
 · split
   ·exact(qve _ _ _).keeps
   ·exact((mode_eats _).mono (qz4 ts)).keeps
 ·exact qz3 _ (Nat.le_refl _)
theorem fn_eats (at_:Int)(ts:List Tok):Eats (fn at_ ts) ts.length:=
 (qql ts).bnd fun n ts=>((zv7 ts).bnd fun _ ts=>(fnRet_keeps ts).bnd fun _ ts=>((block_eats 8 ts).bnd fun _ _=>qz3 _ (Nat.le_refl _)).keeps).keeps
theorem item_eats (ts:List Tok):Eats (item ts) ts.length:=by
 unfold item;split
 ·exact(fn_eats _ _).mono (qz4 ts)
 ·exact(qqn _ ts).bnd fun _ ts=>(typ_eats _ ts).keeps
end Lg
namespace Lx
open Go
open Lg (Tok Tree)
open Go.Proofs (Tryz.prog)
open Go.Proofs.Tryz
abbrev nameS:Spec:=parS qzr Lg.name []
abbrev termS:Spec:=parS qzr Lg.term []
theorem listTerm_OK:OK Tryz.prog 82 (zvs 126 Lg.term):=list_OK 126 (by decide) _ Lg.qxy zxq
theorem args_OK:OK Tryz.prog 153 (parS (fun xs=>.sl 5 (qze xs) false) Lg.args []):=by
 refine fn_OK' qzu (E:=EV) (sp:=spL [(45,zzs),(43,hasS),(82,(zvs 126 Lg.term))]) qzt qzl (OKs.ok ⟨qja,⟨qjl,⟨listTerm_OK,trivial⟩⟩⟩) func153 rfl ntmps153 results153 call153 [1000] none ?_;rintro ys bx Kr Kp ⟨ts,deep,rfl,hb,hg,hK⟩
 refine⟨[(1000,pbox ts deep)],rfl,⟨by decide,hb,trivial⟩,by simp,?_⟩
 unfold Lg.args at hK;simp only[go_sem];refine⟨Lg.sLpar,ts,deep,rfl,rfl,hg,?_⟩;refine qzi hK (fun a c h ts' d'=>?_) (fun x ts1 e hK hg1=>?_)
 ·simp only[go_sem];exact h ts' d'
 · simp only[go_sem]
   refine⟨ts1,deep,Lg.sRpar,rfl,rfl,hg1,fun h=>?_,fun h=>?_⟩
   ·rw[if_pos h]at hK;simp only[go_sem];exact⟨_,qzb (.nil 5 false),hK (hg1.isT h)⟩
   · rw[if_neg (qzg h)]at hK;simp only[go_sem];refine⟨ts1,deep,rfl,rfl,hg1,?_⟩;refine qzi hK (fun a c h ts' d'=>?_) (fun x ts2 e hK hg2=>?_)
     ·simp only[go_sem];exact h ts' d'
     · simp only[go_sem];refine⟨Lg.sRpar,ts2,deep,rfl,rfl,hg2,?_⟩;refine qzi hK (fun a c h ts' d'=>?_) (fun y ts3 e hK hg3=>?_)
       ·simp only[go_sem];exact h ts' d'
       ·simp only[go_sem];exact⟨_,qzb (.rfl _),hK hg3⟩
def endedS:Spec:=fun ys bx Kr Kp=>∃x n,D.le (.ag x) (qzr n)/\x.length=5/\x.all (fun y=>one (.d y))=true/\parS qzr (Lg.zjh n) [.d (.ag x)] ys bx Kr Kp
theorem ended_OK:OK Tryz.prog 150 endedS:=by
 refine fn_OK' qzu (E:=EV) (sp:=spL [(45,zzs)]) qzt qzl (OKs.ok ⟨qja,trivial⟩) func150 rfl ntmps150 results150 call150 [1000] none ?_;rintro ys bx Kr Kp ⟨x,n,hle,hlen,hall,ts,deep,rfl,hb,hg,hK⟩
 refine⟨[(1000,pbox ts deep)],rfl,⟨by decide,hb,trivial⟩,by simp,?_⟩
 match x,hlen with
 |[x1,x2,x3,x4,x5],_=>
 simp only[List.all_cons,List.all_nil,Bool.and_true,Bool.and_eq_true]at hall;obtain⟨a1,a2,a3,a4,a5⟩:=hall;simp only[a1,a2,a3,a4,a5,go_sem];refine⟨Lg.sSemi,ts,deep,rfl,rfl,hg,?_⟩;refine qzi hK (fun a c h ts' d'=>?_) (fun x ts1 e hK hg1=>?_)
 ·simp only[go_sem];exact h ts' d'
 ·simp only[a1,a2,a3,a4,a5,go_sem];exact⟨_,qzb hle,hK hg1⟩
def atS:Spec:=fun ys bx Kr Kp=>∃k,parS qzr (Lg.nameAt k) [.d (.int .i64 k)] ys bx Kr Kp
theorem at_OK:OK Tryz.prog 151 atS:=by
 refine fn_OK' qzu (E:=EV) (sp:=spL [(81,nameS),(45,zzs),(155,numsS)]) qzt qzl (OKs.ok ⟨qk8,⟨qja,⟨qwn,trivial⟩⟩⟩) func151 rfl ntmps151 results151 call151 [1000] none ?_;rintro ys bx Kr Kp ⟨k,ts,deep,rfl,hb,hg,hK⟩
 refine⟨[(1000,pbox ts deep)],rfl,⟨by decide,hb,trivial⟩,by simp,?_⟩
 simp only[go_sem];refine⟨ts,deep,rfl,rfl,hg,?_⟩;refine qzi hK (fun a c h ts' d'=>?_) (fun n ts1 e hK hg1=>?_)
 ·simp only[go_sem];exact h ts' d'
 · obtain⟨k0,t0,m0,p0,ks0⟩:=n;simp only[go_sem];refine⟨Lg.sLbr,ts1,deep,rfl,rfl,hg1,?_⟩;refine qzi hK (fun a c h ts' d'=>?_) (fun x ts2 e hK hg2=>?_)
   ·simp only[go_sem];exact h ts' d'
   · simp only[go_sem];refine⟨1,.inl rfl,ts2,deep,rfl,rfl,hg2,?_⟩;refine qzi hK (fun a c h ts' d'=>?_) (fun v ts3 e hK hg3=>?_)
     ·simp only[go_sem];exact h ts' d'
     · simp only[go_sem];refine⟨Lg.sRbr,ts3,deep,rfl,rfl,hg3,?_⟩;refine qzi hK (fun a c h ts' d'=>?_) (fun x ts4 e hK hg4=>?_)
       ·simp only[go_sem];exact h ts' d'
       ·simp only[go_sem];exact⟨_,qzb (qzc (.rfl _)),hK hg4⟩
theorem field_OK:OK Tryz.prog 88 (parS qzr Lg.field []):=by
 refine fn_OK' qzu (E:=EV) (sp:=spL [(81,nameS),(45,zzs),(43,hasS)]) qzt qzl (OKs.ok ⟨qk8,⟨qja,⟨qjl,trivial⟩⟩⟩) func88 rfl ntmps88 results88 call88 [1000] none ?_;rintro ys bx Kr Kp ⟨ts,deep,rfl,hb,hg,hK⟩
 refine⟨[(1000,pbox ts deep)],rfl,⟨by decide,hb,trivial⟩,by simp,?_⟩
 simp only[go_sem];refine⟨ts,deep,rfl,rfl,hg,?_⟩;refine qzi hK (fun a c h ts' d'=>?_) (fun n ts1 e hK hg1=>?_)
 ·simp only[go_sem];exact h ts' d'
 · obtain⟨k0,t0,m0,p0,ks0⟩:=n;simp only[go_sem]
   refine⟨ts1,deep,Lg.sLbr,rfl,rfl,hg1,fun h=>?_,fun h=>?_⟩
   · rw[if_pos h]at hK;simp only[go_sem];refine⟨ts1.tail,deep,rfl,rfl,hg1.isT h,?_⟩;refine qzi hK (fun a c h ts' d'=>?_) (fun k ts2 e hK hg2=>?_)
     ·simp only[go_sem];exact h ts' d'
     · simp only[go_sem];refine⟨Lg.sRbr,ts2,deep,rfl,rfl,hg2,?_⟩;refine qzi hK (fun a c h ts' d'=>?_) (fun x ts3 e hK hg3=>?_)
       ·simp only[go_sem];exact h ts' d'
       ·simp only[go_sem];exact⟨_,qzb (qzc (qvl rfl)),hK hg3⟩
   ·rw[if_neg (qzg h)]at hK;simp only[go_sem];exact⟨_,qzb (qzc (.rfl _)),hK hg1⟩
theorem mode_OK:OK Tryz.prog 85 (parS qzr Lg.mode []):=by
 refine fn_OK' qzu (E:=EV) (sp:=spL [(42,zqg),(81,nameS),(45,zzs),(43,hasS)]) qzt qzl (OKs.ok ⟨qjo,⟨qk8,⟨qja,⟨qjl,trivial⟩⟩⟩⟩) func85 rfl ntmps85 results85 call85 [1000] none ?_;rintro ys bx Kr Kp ⟨ts,deep,rfl,hb,hg,hK⟩
 refine⟨[(1000,pbox ts deep)],rfl,⟨by decide,hb,trivial⟩,by simp,?_⟩
 unfold Lg.mode at hK;simp only[go_sem];refine⟨ts,deep,rfl,rfl,hg,?_⟩;simp only[go_sem];refine⟨ts,deep,rfl,rfl,hg,?_⟩;simp only[go_sem]
 refine⟨ts,deep,Lg.sInt,rfl,rfl,hg,fun h=>?_,fun h=>?_⟩
 ·rw[if_pos h]at hK;simp only[go_sem];exact⟨_,qzb (qzc qqp),hK (hg.isT h)⟩
 · rw[if_neg (qzg h)]at hK;simp only[go_sem]
   refine⟨ts,deep,Lg.sOwn,rfl,rfl,hg,fun h=>?_,fun h=>?_⟩
   · rw[if_pos h]at hK;simp only[go_sem];refine⟨ts.tail,deep,rfl,rfl,hg.isT h,?_⟩;refine qzi hK (fun a c h ts' d'=>?_) (fun k ts2 e hK hg2=>?_)
     ·simp only[go_sem];exact h ts' d'
     ·simp only[go_sem];exact⟨_,qzb (qzc (qvl rfl)),hK hg2⟩
   · rw[if_neg (qzg h)]at hK;simp only[go_sem];refine⟨Lg.sAmp,ts,deep,rfl,rfl,hg,?_⟩;refine qzi hK (fun a c h ts' d'=>?_) (fun x ts1 e hK hg1=>?_)
     ·simp only[go_sem];exact h ts' d'
     · simp only[go_sem]
       refine⟨ts1,deep,Lg.sMut,rfl,rfl,hg1,fun h=>?_,fun h=>?_⟩
       · rw[if_pos h]at hK;simp only[go_sem];refine⟨ts1.tail,deep,rfl,rfl,hg1.isT h,?_⟩;refine qzi hK (fun a c h ts' d'=>?_) (fun k ts2 e hK hg2=>?_)
         ·simp only[go_sem];exact h ts' d'
         ·simp only[go_sem];exact⟨_,qzb (qzc (qvl rfl)),hK hg2⟩
       · rw[if_neg (qzg h)]at hK;simp only[go_sem];refine⟨ts1,deep,rfl,rfl,hg1,?_⟩;refine qzi hK (fun a c h ts' d'=>?_) (fun k ts2 e hK hg2=>?_)
         ·simp only[go_sem];exact h ts' d'
         ·simp only[go_sem];exact⟨_,qzb (qzc (qvl rfl)),hK hg2⟩
theorem param_OK:OK Tryz.prog 83 (parS qzr Lg.param []):=by
 refine fn_OK' qzu (E:=EV) (sp:=spL [(81,nameS),(45,zzs),(85,(parS qzr Lg.mode []))]) qzt qzl (OKs.ok ⟨qk8,⟨qja,⟨mode_OK,trivial⟩⟩⟩) func83 rfl ntmps83 results83 call83 [1000] none ?_;rintro ys bx Kr Kp ⟨ts,deep,rfl,hb,hg,hK⟩
 refine⟨[(1000,pbox ts deep)],rfl,⟨by decide,hb,trivial⟩,by simp,?_⟩
 simp only[go_sem];refine⟨ts,deep,rfl,rfl,hg,?_⟩;refine qzi hK (fun a c h ts' d'=>?_) (fun n ts1 e hK hg1=>?_)
 ·simp only[go_sem];exact h ts' d'
 · obtain⟨k0,t0,m0,p0,ks0⟩:=n;simp only[go_sem];refine⟨Lg.sColon,ts1,deep,rfl,rfl,hg1,?_⟩;refine qzi hK (fun a c h ts' d'=>?_) (fun x ts2 e hK hg2=>?_)
   ·simp only[go_sem];exact h ts' d'
   · simp only[go_sem];refine⟨ts2,deep,rfl,rfl,hg2,?_⟩;refine qzi hK (fun a c h ts' d'=>?_) (fun m ts3 e hK hg3=>?_)
     ·simp only[go_sem];exact h ts' d'
     ·simp only[go_sem];exact⟨_,qzb (qzc (qvl rfl)),hK hg3⟩
theorem sort_OK:OK Tryz.prog 87 (parS qzr Lg.sort []):=by
 refine fn_OK' qzu (E:=EV) (sp:=spL [(42,zqg),(81,nameS),(84,failS),(43,hasS)]) qzt qzl (OKs.ok ⟨qjo,⟨qk8,⟨zzd,⟨qjl,trivial⟩⟩⟩⟩) func87 rfl ntmps87 results87 call87 [1000] none ?_;rintro ys bx Kr Kp ⟨ts,deep,rfl,hb,hg,hK⟩
 refine⟨[(1000,pbox ts deep)],rfl,⟨by decide,hb,trivial⟩,by simp,?_⟩
 unfold Lg.sort at hK;simp only[go_sem];refine⟨ts,deep,rfl,rfl,hg,?_⟩;simp only[go_sem];refine⟨ts,deep,rfl,rfl,hg,?_⟩;simp only[go_sem]
 refine⟨ts,deep,Lg.sOwn,rfl,rfl,hg,fun h1=>?_,fun h1=>?_⟩
 ·rw[if_pos h1]at hK;simp only[go_sem];exact⟨_,qzb (qzc qqp),hK (hg.isT h1)⟩
 · rw[if_neg (qzg h1)]at hK;simp only[go_sem]
   refine⟨ts,deep,Lg.sCell,rfl,rfl,hg,fun h2=>?_,fun h2=>?_⟩
   ·rw[if_pos h2]at hK;simp only[go_sem];exact⟨_,qzb (qzc qqp),hK (hg.isT h2)⟩
   · rw[if_neg (qzg h2)]at hK;simp only[go_sem]
     refine⟨ts,deep,Lg.zvh,rfl,rfl,hg,fun h3=>?_,fun h3=>?_⟩
     · rw[if_pos (by simp[h3])]at hK;simp only[go_sem];refine⟨ts.tail,deep,rfl,rfl,hg.isT h3,?_⟩;refine qzi hK (fun a c h ts' d'=>?_) (fun k ts2 e hK hg2=>?_)
       ·simp only[go_sem];exact h ts' d'
       ·simp only[go_sem];exact⟨_,qzb (qzc (qvl rfl)),hK hg2⟩
     · simp only[go_sem]
       refine⟨ts,deep,Lg.sLock,rfl,rfl,hg,fun h4=>?_,fun h4=>?_⟩
       · rw[if_pos (by simp[h4])]at hK;simp only[go_sem];refine⟨ts.tail,deep,rfl,rfl,hg.isT h4,?_⟩;refine qzi hK (fun a c h ts' d'=>?_) (fun k ts2 e hK hg2=>?_)
         ·simp only[go_sem];exact h ts' d'
         ·simp only[go_sem];exact⟨_,qzb (qzc (qvl rfl)),hK hg2⟩
       · simp only[go_sem]
         refine⟨ts,deep,Lg.sGuard,rfl,rfl,hg,fun h5=>?_,fun h5=>?_⟩
         · rw[if_pos (by simp[h5])]at hK;simp only[go_sem];refine⟨ts.tail,deep,rfl,rfl,hg.isT h5,?_⟩;refine qzi hK (fun a c h ts' d'=>?_) (fun k ts2 e hK hg2=>?_)
           ·simp only[go_sem];exact h ts' d'
           ·simp only[go_sem];exact⟨_,qzb (qzc (qvl rfl)),hK hg2⟩
         ·rw[if_neg (by simp[h3,h4,h5])]at hK;simp only[go_sem];refine⟨ts,deep,20,rfl,rfl,hg,?_⟩;simp only[go_sem];exact hK ts deep
theorem fact_gen (res:Tree->D)(hres:∀t p xs ys,D.les xs (qze ys)->D.le (.ag [.int .i64 4,.st t,.int .i64 0,.int .i64 p,.sl 5 xs true]) (res (.node 4 t 0 p ys))):OK Tryz.prog 89 (parS res Lg.fact []):=by
 refine fn_OK' qzu (E:=EV) (sp:=spL [(126,termS),(127,(parS (fun b=>.st b) Lg.cmp []))]) qzt qzl (OKs.ok ⟨zxq,⟨cmp_OK,trivial⟩⟩) func89 rfl ntmps89 results89 call89 [1000] none ?_;rintro ys bx Kr Kp ⟨ts,deep,rfl,hb,hg,hK⟩
 refine⟨[(1000,pbox ts deep)],rfl,⟨by decide,hb,trivial⟩,by simp,?_⟩
 simp only[go_sem];refine⟨ts,deep,rfl,rfl,hg,?_⟩;refine qzi hK (fun a c h ts' d'=>?_) (fun a ts1 e hK hg1=>?_)
 ·simp only[go_sem];exact h ts' d'
 · obtain⟨k0,t0,m0,p0,ks0⟩:=a;simp only[go_sem];refine⟨ts1,deep,rfl,rfl,hg1,?_⟩;refine qzi hK (fun a c h ts' d'=>?_) (fun op ts2 e hK hg2=>?_)
   ·simp only[go_sem];exact h ts' d'
   · simp only[go_sem];refine qz9 (wT 0 (wT 1 (wT 4 (wC 2 (wB 3 (wF 5 6 7 8 wZ) 5 (wF 3 6 7 8 wZ)) 3 (wB 2 (wF 5 6 7 8 wZ) 5 (wB 2 (wE 6 7 8 wZ) 6 (wE 2 7 8 wZ))) 5 (wB 2 (wF 3 6 7 8 wZ) 3 (wB 2 (wE 6 7 8 wZ) 6 (wE 2 7 8 wZ))))))) ?_;simp only[go_sem]
     repeat' apply And.intro
     all_goals
      refine⟨ts2,deep,rfl,rfl,hg2,?_⟩;refine qzi hK (fun a c h ts' d'=>?_) (fun b ts3 e hK hg3=>?_)
      ·simp only[go_sem];exact h ts' d'
      · simp only[go_sem]
        repeat' apply And.intro
        all_goals exact⟨_,qzb (hres _ _ _ [.node k0 t0 m0 p0 ks0,b] (.cons (qzk (.node k0 t0 m0 p0 ks0)) (.cons (.rfl _) .nil))),hK hg3⟩
theorem qzo {xs:List D}{f:Bool}{ts:List Tree}(h:D.les xs (qze ts)):D.le (.sl 5 xs f) (.sl 5 (qze ts) false):=.sl h (fun e=>by cases e)
theorem fact_OK:OK Tryz.prog 89 (parS qzr Lg.fact []):=fact_gen qzr fun _ _ _ _ h=>qzc (qzo h)
def treeF:Tree->D
 |.node k t n p ks=>.ag [.int .i64 k,.st t,.int .i64 n,.int .i64 p,.sl 5 (qze ks) true]
theorem factF_OK:OK Tryz.prog 89 (parS treeF Lg.fact []):=fact_gen treeF fun _ _ _ _ h=>by
 rw[treeF];exact .ag (.cons (.rfl _) (.cons (.rfl _) (.cons (.rfl _) (.cons (.rfl _) (.cons (.sl h (fun e=>e)) .nil)))))
theorem listField_OK:OK Tryz.prog 82 (zvs 88 Lg.field):=list_OK 88 (by decide) _ Lg.field_eats field_OK
theorem listFact_OK:OK Tryz.prog 82 (zvs 89 Lg.fact):=list_OK 89 (by decide) _ Lg.fact_eats fact_OK
theorem OK.or {P:Program}{f:FuncId}{S1 S2:Spec}(h1:OK P f S1)(h2:OK P f S2):OK P f (fun ys bx Kr Kp=>S1 ys bx Kr Kp\/S2 ys bx Kr Kp) where
 enters:=h1.enters
 calls ys bx Kr Kp h:=h.elim (h1.calls ys bx Kr Kp) (h2.calls ys bx Kr Kp)
theorem listFF_OK:OK Tryz.prog 82 (fun ys bx Kr Kp=>zvs 88 Lg.field ys bx Kr Kp\/zvs 89 Lg.fact ys bx Kr Kp):=OK.or listField_OK listFact_OK
theorem listParam_OK:OK Tryz.prog 82 (listO 83 Lg.param):=listO_OK 83 (by decide) _ Lg.param_eats param_OK
theorem zxo {xs:List Tree}(h:xs≠[]):¬qze xs=[]:=by
 cases xs with
 |nil=>exact absurd rfl h
 |cons x xs=>simp[qze]
theorem typ_OK (at_:Int):OK Tryz.prog 46 (parS qzr (Lg.typ at_) [.d (.int .i64 at_)]):=by
 refine fn_OK' qzu (E:=EV) (sp:=spL [(81,nameS),(87,(parS qzr Lg.sort [])),(43,hasS),(45,zzs),(82,(fun ys bx Kr Kp=>zvs 88 Lg.field ys bx Kr Kp\/zvs 89 Lg.fact ys bx Kr Kp))]) qzt qzl (OKs.ok ⟨qk8,⟨sort_OK,⟨qjl,⟨qja,⟨listFF_OK,trivial⟩⟩⟩⟩⟩) func46 rfl ntmps46 results46 call46 [1000] none ?_;rintro ys bx Kr Kp ⟨ts,deep,rfl,hb,hg,hK⟩
 refine⟨[(1000,pbox ts deep)],rfl,⟨by decide,hb,trivial⟩,by simp,?_⟩
 simp only[go_sem];refine⟨ts,deep,rfl,rfl,hg,?_⟩;refine qzi hK (fun a c h ts' d'=>?_) (fun n ts1 e hK hg1=>?_)
 ·simp only[go_sem];exact h ts' d'
 · rw[Lg.name_eq e]at hK⊢
   generalize n.text=t0,n.pos=p0 at hK⊢
   simp only[go_sem];refine⟨ts1,deep,rfl,rfl,hg1,?_⟩;refine qzi hK (fun a c h ts' d'=>?_) (fun s ts2 e hK hg2=>?_)
   ·simp only[go_sem];exact h ts' d'
   · simp only[go_sem]
     refine⟨ts2,deep,Lg.sLcu,rfl,rfl,hg2,fun h=>?_,fun h=>?_⟩
     · rw[if_pos h]at hK;simp only[go_sem];refine qz9 (wT 0 (wT 2 (wT 3 (wT 4 (wB 1 (wD 5 6 (wT 7 (wA 8 wZ))) 5 (wD 1 6 (wT 7 (wA 8 wZ)))))))) ?_;simp only[go_sem]
       repeat' apply And.intro
       all_goals
        refine .inl ⟨ts2.tail,deep,rfl,rfl,hg2.isT h,?_⟩;refine qzi hK (fun a c h ts' d'=>?_) (fun fs ts3 e hK hg3=>?_)
        ·simp only[go_sem];exact h ts' d'
        · obtain ⟨hl,hn⟩:=Lg.list_len Lg.field_eats e;replace hn:=zxo hn;have hb2:=(hg2.isT h).2;simp only[hn,go_sem]
          refine⟨by omega,by omega,?_⟩
          refine⟨Lg.sRcu,ts3,deep,rfl,rfl,hg3,?_⟩;refine qzi hK (fun a c h ts' d'=>?_) (fun x ts4 e hK hg_ts4=>?_)
          ·simp only[go_sem];exact h ts' d'
          · have hb4:=Lg.qqn _ _ _ _ e;simp only[go_sem];unfold Lg.qxw at hK
            refine⟨ts4,deep,Lg.sWhere,rfl,rfl,hg_ts4,fun h=>?_,fun h=>?_⟩
            · rw[if_pos h]at hK;simp only[go_sem];refine qz9 (wT 0 (wT 2 (wT 3 (wT 4 (wB 1 (wD 5 6 (wT 7 (wA 8 wZ))) 5 (wD 1 6 (wT 7 (wA 8 wZ)))))))) ?_;simp only[go_sem]
              repeat' apply And.intro
              all_goals
               refine .inr ⟨ts4.tail,deep,rfl,rfl,hg_ts4.isT h,?_⟩;refine qzi hK (fun a c h ts' d'=>?_) (fun fs2 ts5 e hK hg5=>?_)
               ·simp only[go_sem];exact h ts' d'
               · obtain⟨hl2,hn2⟩:=Lg.list_len Lg.fact_eats e;replace hn2:=zxo hn2;have hb5:=(hg_ts4.isT h).2;simp only[hn2,go_sem]
                 refine⟨by omega,by omega,?_⟩
                 refine⟨Lg.sSemi,ts5,deep,rfl,rfl,hg5,?_⟩;refine qzi hK (fun a c h ts' d'=>?_) (fun x ts6 e hK hg6=>?_)
                 ·simp only[go_sem];exact h ts' d'
                 · simp only[go_sem]
                   exact⟨by simp only[lC,qzn];omega,_,qzb (qzc (qvl (by simp[qze,qzp,Lg.Tree.kids]))),hK hg6⟩
            · rw[if_neg (qzg h)]at hK;simp only[go_sem];refine⟨Lg.sSemi,ts4,deep,rfl,rfl,hg_ts4,?_⟩;refine qzi hK (fun a c h ts' d'=>?_) (fun x ts6 e hK hg6=>?_)
              ·simp only[go_sem];exact h ts' d'
              ·simp only[go_sem];exact⟨_,qzb (qzc (qvl (by simp[qze,qzp,Lg.Tree.kids]))),hK hg6⟩
     · rw[if_neg (qzg h)]at hK;have hg_ts2:=hg2;simp only[go_sem];unfold Lg.qxw at hK
       refine⟨ts2,deep,Lg.sWhere,rfl,rfl,hg_ts2,fun h=>?_,fun h=>?_⟩
       · rw[if_pos h]at hK;simp only[go_sem];refine qz9 (wT 0 (wT 2 (wT 3 (wT 4 (wB 1 (wD 5 6 (wT 7 (wA 8 wZ))) 5 (wD 1 6 (wT 7 (wA 8 wZ)))))))) ?_;simp only[go_sem]
         repeat' apply And.intro
         all_goals
          refine .inr ⟨ts2.tail,deep,rfl,rfl,hg_ts2.isT h,?_⟩;refine qzi hK (fun a c h ts' d'=>?_) (fun fs2 ts5 e hK hg5=>?_)
          ·simp only[go_sem];exact h ts' d'
          · obtain⟨hl2,hn2⟩:=Lg.list_len Lg.fact_eats e;replace hn2:=zxo hn2;have hb5:=(hg_ts2.isT h).2;simp only[hn2,go_sem]
            refine⟨by omega,by omega,?_⟩
            refine⟨Lg.sSemi,ts5,deep,rfl,rfl,hg5,?_⟩;refine qzi hK (fun a c h ts' d'=>?_) (fun x ts6 e hK hg6=>?_)
            ·simp only[go_sem];exact h ts' d'
            ·simp only[go_sem];exact⟨_,qzb (qzc (qvl (by simp[qze,qzp,Lg.Tree.kids]))),hK hg6⟩
       · rw[if_neg (qzg h)]at hK;simp only[go_sem];refine⟨Lg.sSemi,ts2,deep,rfl,rfl,hg_ts2,?_⟩;refine qzi hK (fun a c h ts' d'=>?_) (fun x ts6 e hK hg6=>?_)
         ·simp only[go_sem];exact h ts' d'
         ·simp only[go_sem];exact⟨_,qzb (qzc (qvl (by simp[qze,qzp,Lg.Tree.kids]))),hK hg6⟩
end Lx
