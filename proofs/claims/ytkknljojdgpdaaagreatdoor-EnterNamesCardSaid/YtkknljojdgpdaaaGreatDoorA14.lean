import Derived.Test.YtkknljojdgpdaaaGreatDoorA09
import Derived.Test.YtkknljojdgpdaaaGreatDoorA11
import Derived.Test.YtkknljojdgpdaaaGreatDoorA13
import Derived.Test.YtkknljojdgpdaaaGreatDoorA10
import Derived.Test.YtkknljojdgpdaaaGreatDoorA12
set_option maxHeartbeats 32000000
set_option linter.unusedSimpArgs false
set_option linter.unusedVariables false
namespace Lx
open Go
@[go_sem ↓]theorem clK_normal (pk:List Nat)(K:Bx->Prop)(s:S):clK pk K .normal s=(okD s.bx pk/\K (outB pk s.bx)):=(rfl)
@[go_sem ↓]theorem clK_ret (pk:List Nat)(K:Bx->Prop)(s:S):clK pk K .ret s=(okD s.bx pk/\K (outB pk s.bx)):=(rfl)
@[go_sem ↓]theorem defQ_normal (E:Env)(sp:FuncId->Option SpecX)(d n:Nat)(cs:List Nat)(B2:Code)(Sc:qkm)(rs:List ResultVar)(Fk:List LV->S->Prop)(s:S):
   defQ E sp d n cs B2 Sc rs Fk .normal s=evW s (fun s=>Hold (tailK E sp d n cs B2 Sc rs Fk s) ⟨⟩) ⟨⟩:=(rfl)
@[go_sem ↓]theorem defQ_ret (E:Env)(sp:FuncId->Option SpecX)(d n:Nat)(cs:List Nat)(B2:Code)(Sc:qkm)(rs:List ResultVar)(Fk:List LV->S->Prop)(s:S):
   defQ E sp d n cs B2 Sc rs Fk .ret s=resK E rs s fun xs=>Fk xs s:=(rfl)
@[go_sem ↓]theorem finQ_normal (E:Env)(n:Nat)(Sc:qkm)(rs:List ResultVar)(Fk:List LV->S->Prop)(s:S):finQ E n Sc rs Fk .normal s=finK E n Sc rs Fk none s:=(rfl)
@[go_sem ↓]theorem finQ_ret (E:Env)(n:Nat)(Sc:qkm)(rs:List ResultVar)(Fk:List LV->S->Prop)(s:S):finQ E n Sc rs Fk .ret s=finK E n Sc rs Fk none s:=(rfl)
@[go_sem ↓]theorem finK_eq (E:Env)(n:Nat)(Sc:qkm)(rs:List ResultVar)(Fk:List LV->S->Prop)(mo:Option D)(s:S):finK E n Sc rs Fk mo s=evW s (fun s=>Hold (finK E n Sc rs Fk mo s) ⟨⟩) ⟨⟩:=(rfl)
theorem qqw {E:Env}{n:Nat}{Sc:qkm}{rs:List ResultVar}{Fk:List LV->S->Prop}{mo:Option D}{s:S}{w:Ph (finK E n Sc rs Fk mo s)}(l bl:List Nat)(h:frzN l s fun s=>blurN bl s fun s=>finK1 E n Sc rs Fk mo s):Hold (finK E n Sc rs Fk mo s) w:=⟨l,bl,h⟩
@[go_sem ↓]theorem blurN_nil (s:S)(K:S->Prop):blurN [] s K=K s:=(rfl)
@[go_sem ↓]theorem blurN_cons (k:Nat)(l:List Nat)(s:S)(K:S->Prop):blurN (k::l) s K=sm (s.bx k) fun b=>evW s (fun s=>evW b (fun b=>Hold (blur1 s k b fun s=>blurN l s K) ⟨⟩) ⟨⟩) ⟨⟩:=(rfl)
@[go_sem ↓]theorem finK1_eq (E:Env)(n:Nat)(Sc:qkm)(rs:List ResultVar)(Fk:List LV->S->Prop)(mo:Option D)(s:S):
   finK1 E n Sc rs Fk mo s=(evW (capK n) (fun ks=>okB s.bx ks/\evW s (fun s=>Hold (Sc mo (fp ks s.bx) fun bx4=>resK E rs {s with bx:=mrg ks bx4 s.bx} fun xs=>Fk xs {s with bx:=mrg ks bx4 s.bx}) ⟨⟩) ⟨⟩) ⟨⟩):=(rfl)
@[go_sem]theorem capK_1:capK 1=[1000]:=(rfl)
@[go_sem]theorem capK_2:capK 2=[1000,1001]:=(rfl)
@[go_sem]theorem capK_3:capK 3=[1000,1001,1002]:=(rfl)
@[go_sem]theorem capK_4:capK 4=[1000,1001,1002,1003]:=(rfl)
@[go_sem]theorem recD_none:recD none=.imm .nilIface:=(rfl)
@[go_sem]theorem recD_some (d:D):recD (some d)=d:=(rfl)
@[go_sem]theorem bps_1:bps 1=[.bp 1000 0]:=(rfl)
@[go_sem]theorem bps_2:bps 2=[.bp 1000 0,.bp 1001 0]:=(rfl)
@[go_sem]theorem bps_3:bps 3=[.bp 1000 0,.bp 1001 0,.bp 1002 0]:=(rfl)
@[go_sem]theorem bps_4:bps 4=[.bp 1000 0,.bp 1001 0,.bp 1002 0,.bp 1003 0]:=(rfl)
@[go_sem]theorem laysl_nil:zvv []=nix:=(rfl)
@[go_sem]theorem laysl_cons (i:Nat)(x:LV)(l:List (Nat×LV)):zvv ((i,x)::l)=put i x (zvv l):=(rfl)
@[go_sem]theorem fpl_nil (bx:Bx)(i:Nat):fpl bx i []=nix:=(rfl)
@[go_sem]theorem fpl_cons (bx:Bx)(i k:Nat)(ks:List Nat):fpl bx i (k::ks)=match bx k with|some b=>put i b (fpl bx (i+1) ks)|none=>fpl bx (i+1) ks:=(rfl)
@[go_sem]theorem qqc:ovS nix nix=nix:=by
  funext j;unfold ovS;split<;>rfl
theorem zk2 {E:Env}{sp:FuncId->Option SpecX}{d n:Nat}{cs:List Nat}{B2:Code}{Sc:qkm}{rs:List ResultVar}{Fk:List LV->S->Prop}{s:S}{w:Ph (tailK E sp d n cs B2 Sc rs Fk s)}
  (ks:List Nat)(L:List (Nat×LV))(h1:d<s.n)(h2:∀p∈L,p.1≠d)(h3:nodup ks=true)(h4:okB s.bx ks)(h5:n<=ks.length)(h6:cs.map s.tm=(ks.take n).map (fun k=>some (.bp k 0)))(h7:∀p∈L,s.tm p.1=some p.2)(h8:∀k∈kyss (L.map (·.2)),k∈ks)
  (h:evW (ovS s.bx (fpl s.bx 1000 ks)) (fun b2=>evW (⟨s.n,zvv (L.map fun p=>(p.1,ren ks p.2)),b2,nix⟩:S) (fun s2=>cK E sp B2 s2 (finQ E n Sc rs Fk) (fun d s'=>finK E n Sc rs Fk (some d) s')) ⟨⟩) ⟨⟩)(h9:qvk ks=true:=by decide):Hold (tailK E sp d n cs B2 Sc rs Fk s) w:=
 ⟨ks,L,h1,h2,h3,h9,h4,h5,h6,h7,h8,h⟩
@[go_sem]theorem mrg_three (k1 k2 k3:Nat)(B1 B2 B3:Box)(bx:Bx):mrg [k1,k2,k3] (put 1000 B1 (put 1001 B2 (put 1002 B3 nix))) bx=put k1 B1 (put k2 B2 (put k3 B3 bx)):=by
  funext j
  by_cases e1:j=k1
  ·subst e1;simp[mrg,ixof,put]
  · by_cases e2:j=k2
    ·subst e2;simp[mrg,ixof,put,e1]
    · by_cases e3:j=k3
      ·subst e3;simp[mrg,ixof,put,e1,e2]
      ·simp[mrg,put,e1,e2,e3]
theorem zvl {E:Env}{sp:FuncId->Option SpecX}{ops:Array Oper}{l:List Oper}{s:S}{K:S->Prop}{Kp:D->S->Prop}
  (h:evW (ops.toList.map (·.dst)) (fun ds=>evW (l.map o3) (fun l=>opsM E sp ds l s K Kp) ⟨⟩) ⟨⟩):opsL E sp ops l s K Kp:=(zxy E sp ops l s K Kp).symm▸h
end Lx
set_option maxRecDepth 20000
namespace Lx
open Go
open Lg (Tok Tree)
open Go.Proofs (Tryz.prog)
open Go.Proofs.Tryz
def rbox (x:List D)(a e:Int):Bx:=put 1000 ⟨x.map .d,92⟩ (put 1001 ⟨[.d (.int .i64 a)],3⟩ (put 1002 ⟨[.d (.int .i64 e)],40⟩ nix))
def qvo:List D:=[.int .i64 0,.st [],.int .i64 0,.int .i64 0,.imm (.slice none 0 0)]
def recS:qkm:=fun m bx K=>∃x1 x2 x3 x4 x5 a e,bx 1000=some ⟨[.d x1,.d x2,.d x3,.d x4,.d x5],92⟩/\bx 1001=some ⟨[.d (.int .i64 a)],3⟩/\bx 1002=some ⟨[.d (.int .i64 e)],40⟩/\
 match m with
 |none=>K (rbox [x1,x2,x3,x4,x5] a e)
 |some d=>∃p c,d=.ifc 145 (.ag [.int .i64 p,.int .i64 c])/\K (rbox qvo p c)
theorem rec_OK:OKD Tryz.prog 41 3 recS:=by
 refine zwh qzu (E:=EV) (sp:=spL []) qzt qzl (OKs.ok trivial) func41 rfl ntmps41 results41 rfl rfl rfl call41 ?_;rintro mo bx K ⟨x1,x2,x3,x4,x5,a,e,h0,h1,h2,hK⟩
 refine⟨[(1000,⟨[.d x1,.d x2,.d x3,.d x4,.d x5],92⟩),(1001,⟨[.d (.int .i64 a)],3⟩),(1002,⟨[.d (.int .i64 e)],40⟩)],rfl,⟨by decide,h0,by decide,h1,by decide,h2,trivial⟩,by decide,by decide,?_⟩
 refine zvl ?_
 cases mo with
 |none=>
  simp only[go_sem];exact hK
 |some d=>
  obtain⟨p,c,rfl,hK⟩:=hK;simp only[go_sem];refine qz9 (wT 1 (wT 3 (wC 0 (wC 2 (wB 4 (wE 5 6 7 wZ) 5 (wB 4 (wD 6 7 wZ) 6 (wD 4 7 wZ))) 4 (wB 2 (wE 5 6 7 wZ) 5 (wE 2 6 7 wZ)) 5 (wB 2 (wB 4 (wD 6 7 wZ) 6 (wD 4 7 wZ)) 4 (wE 2 6 7 wZ))) 2 (wB 0 (wB 4 (wE 5 6 7 wZ) 5 (wB 4 (wD 6 7 wZ) 6 (wD 4 7 wZ))) 4 (wF 0 5 6 7 wZ)) 4 (wB 0 (wB 2 (wE 5 6 7 wZ) 5 (wE 2 6 7 wZ)) 2 (wF 0 5 6 7 wZ))))) ?_;simp only[go_sem]
  repeat' apply And.intro
  all_goals exact hK
def zke:Spec:=fun ys bx Kr _=>∃l,ys=[.d (.st l)]/\match Lg.zjy l with
 |.ok t=>Kr (.tup [.d (qzr t),.d (.int .i64 0),.d (.int .i64 0)]) nix none
 |.error (a,c)=>Kr (.tup [.d (qzr (.node 0 [] 0 0 [])),.d (.int .i64 a),.d (.int .i64 c)]) nix none
abbrev EP:Env:=mkE false (fun _=>false) (fun j=> !(j==2||j==3||j==4))
theorem qkb (y:Tree)(acc:List Tree)(u:D)(x:Tree):(qze (y::acc)++[u]).set ((acc.length:Int)+1).toNat (qzr x)=qze (y::acc)++[qzr x]:=by
 have e:((acc.length:Int)+1).toNat=(qze (y::acc)).length:=by rw[qzn,lB];omega
 rw[e];simp
theorem qqt (xs:List Tree)(x:Tree):Lg.qvj (xs++[x])=Lg.qvj xs+Lg.size x:=by
 induction xs with
 |nil=>simp[Lg.qvj]
 |cons y xs ih=>simp only[List.cons_append,Lg.qvj,ih];omega
theorem fnX_OK:OK Tryz.prog 44 (fun ys bx Kr Kp=>∃at_,fnS at_ ys bx Kr Kp) where
 enters:=call44
 calls ys bx Kr Kp h:=by obtain⟨at_,h⟩:=h;exact(fn_OK_ expr_OK at_).calls ys bx Kr Kp h
theorem typX_OK:OK Tryz.prog 46 (fun ys bx Kr Kp=>∃at_,parS qzr (Lg.typ at_) [.d (.int .i64 at_)] ys bx Kr Kp) where
 enters:=call46
 calls ys bx Kr Kp h:=by obtain⟨at_,h⟩:=h;exact(typ_OK at_).calls ys bx Kr Kp h
def outE (Kr:LV->Bx->Ar1->Prop)(a c:Int):Prop:=Kr (.tup [.d (qzr (.node 0 [] 0 0 [])),.d (.int .i64 a),.d (.int .i64 c)]) nix none
def outT (Kr:LV->Bx->Ar1->Prop)(xs:List Tree):Prop:=if 4096<Lg.size (.node 0 [] 0 0 xs)then outE Kr 0 22 else Kr (.tup [.d (qzr (.node 0 [] 0 0 xs)),.d (.int .i64 0),.d (.int .i64 0)]) nix none
theorem parse_OK (hpay:∀ts x ts',Lg.item ts=.ok (x,ts')->Lg.size x+3*ts'.length<=3*ts.length)(htoks:OK Tryz.prog 40 toksS):OK Tryz.prog 20 zke:=by
 refine fn_OKD qzu (E:=EP) (sp:=spL [(40,toksS),(42,zqg),(43,hasS),(44,.a fun ys bx Kr Kp=>∃at_,fnS at_ ys bx Kr Kp),(46,.a fun ys bx Kr Kp=>∃at_,parS qzr (Lg.typ at_) [.d (.int .i64 at_)] ys bx Kr Kp),(45,zzs),(47,sizeS 9223372036854775807)]) qzt qzl (OKs.ok ⟨htoks,qjo,qjl,fnX_OK,typX_OK,qja,size_OK _ (by decide),trivial⟩)
  (cs:=[2,3,4]) (n:=3) (d:=19) rec_OK func20 rfl ntmps20 results20 call20 (.more _ (.more _ (.one _ _))) rfl rfl rfl rfl rfl rfl rfl rfl ?_
 rintro ys bx Kr Kp ⟨l,rfl,hK⟩
 refine⟨rfl,by simp,?_⟩
 simp only[go_sem];refine⟨l,rfl,?_⟩;unfold Lg.zjy at hK
 cases htk:Lg.toks l with
 |error p=>
  obtain⟨a,c⟩:=p;rw[htk]at hK;intro hc;simp only[go_sem]
  refine⟨fun h=>?_,fun h=>?_⟩
  · refine qz9 (wC 0 (wC 1 (wB 2 (wE 3 4 5 wZ) 3 (wB 2 (wD 4 5 wZ) 4 (wD 2 5 wZ))) 2 (wB 1 (wE 3 4 5 wZ) 3 (wE 1 4 5 wZ)) 3 (wB 1 (wB 2 (wD 4 5 wZ) 4 (wD 2 5 wZ)) 2 (wE 1 4 5 wZ))) 1 (wB 0 (wB 2 (wE 3 4 5 wZ) 3 (wB 2 (wD 4 5 wZ) 4 (wD 2 5 wZ))) 2 (wF 0 3 4 5 wZ)) 2 (wB 0 (wB 1 (wE 3 4 5 wZ) 3 (wE 1 4 5 wZ)) 1 (wF 0 3 4 5 wZ))) ?_;simp only[go_sem]
    repeat' apply And.intro
    all_goals exact⟨_,.cons (qzc qqp) (.cons (.rfl _) (.cons (.rfl _) .nil)),hK⟩
  ·exact absurd (by simpa using h) hc
 |ok ts=>
  rw[htk]at hK;intro hg;simp only[go_sem];refine zk2 [2,3,4] [(2,.bp 2 0),(3,.bp 3 0),(4,.bp 4 0),(5,.d (.sl 4 (ts.map tokD) false))] ?_ ?_ rfl ?_ ?_ ?_ ?_ ?_ ?_
  ·show 19<59;decide
  · intro p hp;simp only[List.mem_cons,List.not_mem_nil,or_false]at hp
    rcases hp with rfl|rfl|rfl|rfl<;>simp
  ·exact⟨⟨_,rfl,rfl⟩,⟨_,rfl,rfl⟩,⟨_,rfl,rfl⟩,trivial⟩
  ·decide
  ·rfl
  · intro p hp;simp only[List.mem_cons,List.not_mem_nil,or_false]at hp
    rcases hp with rfl|rfl|rfl|rfl<;>rfl
  ·intro k hk;simpa[kyss,kys]using hk
  simp only[go_sem]
  replace hK:post (Lg.zx6 ts) (fun xs _=>outT Kr xs) (outE Kr):=by
   have hK':(match Lg.qv2 ts with|.ok t=>Kr (.tup [.d (qzr t),.d (.int .i64 0),.d (.int .i64 0)]) nix none|.error (a,c)=>outE Kr a c):=hK
   unfold Lg.qv2 at hK'
   cases hit:Lg.zx6 ts with
   |error p=>obtain⟨a,c⟩:=p;rw[hit]at hK';exact hK'
   |ok p=>
    obtain⟨xs,ts'⟩:=p;rw[hit]at hK'
    show outT Kr xs
    unfold outT;simp only at hK';split
    ·rename_i h;rw[if_pos h]at hK';exact hK'
    ·rename_i h;rw[if_neg h]at hK';exact hK'
  have hl0:=hg.2
  refine qzj (T:={t:Nat×List Tree×List Tok //(t.1=39\/t.1=51)/\Good t.2.2/\Lg.qvj t.2.1+3*t.2.2.length<=6291456/\post (Lg.zx6 t.2.2) (fun xs _=>outT Kr (t.2.1++xs)) (outE Kr)})
   (fun t=>⟨59,put 2 (.bp 1000 0) (put 3 (.bp 1001 0) (put 4 (.bp 1002 0) (put 6 (.bp 22 0) nix))),put 22 (pbox t.1.2.2 0) (put 1000 ⟨[.d (.int .i64 0),.d (.st []),.d (.int .i64 0),.d (.int .i64 0),qjp t.1.1 t.1.2.1],92⟩ (put 1001 ⟨[.d (.int .i64 0)],3⟩ (put 1002 ⟨[.d (.int .i64 0)],40⟩ nix))),qj5 t.1.1 t.1.2.1⟩) (fun t=>t.1.2.2.length)
   ⟨(39,[],ts),.inl rfl,hg,by simp only[Lg.qvj];omega,qq5 hK (fun _ _ h=>h) (fun _ _ _ h=>h)⟩
   ⟨rfl,sP4 qza,sP4 qza,qza⟩ ?_
  rintro⟨⟨d,acc,ts2⟩,hd0,hg20,hb20,hK0⟩;have hd:d=39\/d=51:=hd0;have hg2:Good ts2:=hg20;have hb2:Lg.qvj acc+3*ts2.length<=6291456:=hb20;have hK:post (Lg.zx6 ts2) (fun xs _=>outT Kr (acc++xs)) (outE Kr):=hK0;have hlen:=hg2.2;have hls:=qj2 acc;rw[Lg.zx6]at hK;simp only[go_sem];refine⟨ts2,0,rfl,rfl,hg2,?_⟩;simp only[go_sem]
  refine⟨fun h=>?_,fun h=>?_⟩
  · rw[if_neg (by simpa using h)]at hK;refine⟨ts2,0,rfl,rfl,hg2,?_⟩;simp only[go_sem]
    refine⟨ts2,0,Lg.sFn,rfl,rfl,hg2,fun h2=>?_,fun h2=>?_⟩
    · have hi:Lg.item ts2=Lg.fn (Lg.hd ts2).pos ts2.tail:=by unfold Lg.item;rw[if_pos h2]
      rcases hd with rfl|rfl
      · cases acc with
        |nil=>
         simp only[go_sem];refine qz9 (wT 0 (wT 2 (wT 3 (wC 1 (wC 4 (wB 5 (wD 6 7 (wT 10 (wB 8 (wB 9 (wA 11 wZ) 11 (wA 9 wZ)) 11 (wD 8 9 wZ)))) 6 (wD 5 7 (wT 10 (wB 8 (wB 9 (wA 11 wZ) 11 (wA 9 wZ)) 11 (wD 8 9 wZ))))) 5 (wB 4 (wD 6 7 (wT 10 (wB 8 (wB 9 (wA 11 wZ) 11 (wA 9 wZ)) 11 (wD 8 9 wZ)))) 6 (wD 4 7 (wT 10 (wB 8 (wB 9 (wA 11 wZ) 11 (wA 9 wZ)) 11 (wD 8 9 wZ))))) 6 (wB 4 (wD 5 7 (wT 10 (wB 8 (wB 9 (wA 11 wZ) 11 (wA 9 wZ)) 11 (wD 8 9 wZ)))) 5 (wD 4 7 (wT 10 (wB 8 (wB 9 (wA 11 wZ) 11 (wA 9 wZ)) 11 (wD 8 9 wZ)))))) 4 (wB 1 (wB 5 (wD 6 7 (wT 10 (wB 8 (wB 9 (wA 11 wZ) 11 (wA 9 wZ)) 11 (wD 8 9 wZ)))) 6 (wD 5 7 (wT 10 (wB 8 (wB 9 (wA 11 wZ) 11 (wA 9 wZ)) 11 (wD 8 9 wZ))))) 6 (wE 1 5 7 (wT 10 (wB 8 (wB 9 (wA 11 wZ) 11 (wA 9 wZ)) 11 (wD 8 9 wZ))))) 6 (wB 1 (wB 4 (wD 5 7 (wT 10 (wB 8 (wB 9 (wA 11 wZ) 11 (wA 9 wZ)) 11 (wD 8 9 wZ)))) 5 (wD 4 7 (wT 10 (wB 8 (wB 9 (wA 11 wZ) 11 (wA 9 wZ)) 11 (wD 8 9 wZ))))) 4 (wE 1 5 7 (wT 10 (wB 8 (wB 9 (wA 11 wZ) 11 (wA 9 wZ)) 11 (wD 8 9 wZ))))))))) ?_;simp only[go_sem]
         repeat' apply And.intro
         all_goals first
          |omega
          | (refine⟨(Lg.hd ts2).pos,ts2.tail,rfl,rfl,hg2.isT h2,?_⟩
             rw[hi]at hK
             generalize e3:Lg.fn (Lg.hd ts2).pos ts2.tail=r at hK hi⊢
             cases r with
             |error q=>
              obtain⟨a,c⟩:=q;intro ts' d';simp only[go_sem];refine qqw [] [1000] ?_;simp only[go_sem];intro vs hvs _
              match vs,hvs with
              |[v1,v2,v3,v4,v5],_=>
              simp only[go_sem];refine⟨_,_,_,_,_,_,_,rfl,rfl,rfl,_,_,rfl,?_⟩;simp only[rbox,qvo,List.map_cons,List.map_nil,go_sem];exact⟨_,.cons (qzc qqp) (.cons (.rfl _) (.cons (.rfl _) .nil)),hK⟩
             |ok q=>
              obtain⟨x,ts3⟩:=q;intro hg3;have hl3:=Lg.item_eats _ _ _ hi;have hp:=hpay _ _ _ hi;simp only[if_pos hl3]at hK;simp only[go_sem]
              repeat' apply And.intro
              all_goals first
               |omega
               |(simp only[lC,qzn,lB,lH];done)
               | (refine⟨⟨(39,[]++[x],ts3),?_,hg3,?_,qzi hK (fun _ _ h=>h) (fun xs ts' e h=>?_)⟩,
                   ⟨rfl,sP4 qza,sP1 (qzd ?_ (sP2 qza)),?_⟩,hl3⟩
                  ·first|exact .inl rfl|exact .inr rfl
                  · show Lg.qvj ([]++[x])+3*ts3.length<=6291456
                    rw[qqt];omega
                  ·have h2:outT Kr ([]++x::xs):=h;simpa using h2
                  ·show _=some (Box.mk [_,_,_,_,qjp 39 ([]++[x])] _);rw[qq4];rfl
                  · show subm _ (qj5 39 ([]++[x]))
                    refine qxl ?_
                    first|rfl|(show some (5,92,_)=_;rw[qkb])))
        |cons y acc=>
         simp only[lB]at hls;simp only[go_sem];refine qz9 (wT 0 (wT 2 (wT 3 (wC 1 (wC 4 (wB 5 (wD 6 7 (wT 10 (wB 8 (wB 9 (wA 11 wZ) 11 (wA 9 wZ)) 11 (wD 8 9 wZ)))) 6 (wD 5 7 (wT 10 (wB 8 (wB 9 (wA 11 wZ) 11 (wA 9 wZ)) 11 (wD 8 9 wZ))))) 5 (wB 4 (wD 6 7 (wT 10 (wB 8 (wB 9 (wA 11 wZ) 11 (wA 9 wZ)) 11 (wD 8 9 wZ)))) 6 (wD 4 7 (wT 10 (wB 8 (wB 9 (wA 11 wZ) 11 (wA 9 wZ)) 11 (wD 8 9 wZ))))) 6 (wB 4 (wD 5 7 (wT 10 (wB 8 (wB 9 (wA 11 wZ) 11 (wA 9 wZ)) 11 (wD 8 9 wZ)))) 5 (wD 4 7 (wT 10 (wB 8 (wB 9 (wA 11 wZ) 11 (wA 9 wZ)) 11 (wD 8 9 wZ)))))) 4 (wB 1 (wB 5 (wD 6 7 (wT 10 (wB 8 (wB 9 (wA 11 wZ) 11 (wA 9 wZ)) 11 (wD 8 9 wZ)))) 6 (wD 5 7 (wT 10 (wB 8 (wB 9 (wA 11 wZ) 11 (wA 9 wZ)) 11 (wD 8 9 wZ))))) 6 (wE 1 5 7 (wT 10 (wB 8 (wB 9 (wA 11 wZ) 11 (wA 9 wZ)) 11 (wD 8 9 wZ))))) 6 (wB 1 (wB 4 (wD 5 7 (wT 10 (wB 8 (wB 9 (wA 11 wZ) 11 (wA 9 wZ)) 11 (wD 8 9 wZ)))) 5 (wD 4 7 (wT 10 (wB 8 (wB 9 (wA 11 wZ) 11 (wA 9 wZ)) 11 (wD 8 9 wZ))))) 4 (wE 1 5 7 (wT 10 (wB 8 (wB 9 (wA 11 wZ) 11 (wA 9 wZ)) 11 (wD 8 9 wZ))))))))) ?_;simp only[go_sem]
         repeat' apply And.intro
         all_goals first
          |omega
          | (refine⟨(Lg.hd ts2).pos,ts2.tail,rfl,rfl,hg2.isT h2,?_⟩
             rw[hi]at hK
             generalize e3:Lg.fn (Lg.hd ts2).pos ts2.tail=r at hK hi⊢
             cases r with
             |error q=>
              obtain⟨a,c⟩:=q;intro ts' d';simp only[go_sem];refine qqw [] [1000] ?_;simp only[go_sem];intro vs hvs _
              match vs,hvs with
              |[v1,v2,v3,v4,v5],_=>
              simp only[go_sem];refine⟨_,_,_,_,_,_,_,rfl,rfl,rfl,_,_,rfl,?_⟩;simp only[rbox,qvo,List.map_cons,List.map_nil,go_sem];exact⟨_,.cons (qzc qqp) (.cons (.rfl _) (.cons (.rfl _) .nil)),hK⟩
             |ok q=>
              obtain⟨x,ts3⟩:=q;intro hg3;have hl3:=Lg.item_eats _ _ _ hi;have hp:=hpay _ _ _ hi;simp only[if_pos hl3]at hK;simp only[go_sem]
              repeat' apply And.intro
              all_goals first
               |omega
               |(simp only[lC,qzn,lB,lH];done)
               | (refine⟨⟨(39,(y::acc)++[x],ts3),?_,hg3,?_,qzi hK (fun _ _ h=>h) (fun xs ts' e h=>?_)⟩,
                   ⟨rfl,sP4 qza,sP1 (qzd ?_ (sP2 qza)),?_⟩,hl3⟩
                  ·first|exact .inl rfl|exact .inr rfl
                  · show Lg.qvj ((y::acc)++[x])+3*ts3.length<=6291456
                    rw[qqt];omega
                  ·have h2:outT Kr ((y::acc)++x::xs):=h;simpa using h2
                  ·show _=some (Box.mk [_,_,_,_,qjp 39 ((y::acc)++[x])] _);rw[qq4];rfl
                  · show subm _ (qj5 39 ((y::acc)++[x]))
                    refine qxl ?_
                    first|rfl|(show some (5,92,_)=_;rw[qkb])))
      · cases acc with
        |nil=>
         simp only[go_sem];refine qz9 (wT 0 (wT 2 (wT 3 (wC 1 (wC 4 (wB 5 (wD 6 7 (wT 10 (wB 8 (wB 9 (wA 11 wZ) 11 (wA 9 wZ)) 11 (wD 8 9 wZ)))) 6 (wD 5 7 (wT 10 (wB 8 (wB 9 (wA 11 wZ) 11 (wA 9 wZ)) 11 (wD 8 9 wZ))))) 5 (wB 4 (wD 6 7 (wT 10 (wB 8 (wB 9 (wA 11 wZ) 11 (wA 9 wZ)) 11 (wD 8 9 wZ)))) 6 (wD 4 7 (wT 10 (wB 8 (wB 9 (wA 11 wZ) 11 (wA 9 wZ)) 11 (wD 8 9 wZ))))) 6 (wB 4 (wD 5 7 (wT 10 (wB 8 (wB 9 (wA 11 wZ) 11 (wA 9 wZ)) 11 (wD 8 9 wZ)))) 5 (wD 4 7 (wT 10 (wB 8 (wB 9 (wA 11 wZ) 11 (wA 9 wZ)) 11 (wD 8 9 wZ)))))) 4 (wB 1 (wB 5 (wD 6 7 (wT 10 (wB 8 (wB 9 (wA 11 wZ) 11 (wA 9 wZ)) 11 (wD 8 9 wZ)))) 6 (wD 5 7 (wT 10 (wB 8 (wB 9 (wA 11 wZ) 11 (wA 9 wZ)) 11 (wD 8 9 wZ))))) 6 (wE 1 5 7 (wT 10 (wB 8 (wB 9 (wA 11 wZ) 11 (wA 9 wZ)) 11 (wD 8 9 wZ))))) 6 (wB 1 (wB 4 (wD 5 7 (wT 10 (wB 8 (wB 9 (wA 11 wZ) 11 (wA 9 wZ)) 11 (wD 8 9 wZ)))) 5 (wD 4 7 (wT 10 (wB 8 (wB 9 (wA 11 wZ) 11 (wA 9 wZ)) 11 (wD 8 9 wZ))))) 4 (wE 1 5 7 (wT 10 (wB 8 (wB 9 (wA 11 wZ) 11 (wA 9 wZ)) 11 (wD 8 9 wZ))))))))) ?_;simp only[go_sem]
         repeat' apply And.intro
         all_goals first
          |omega
          | (refine⟨(Lg.hd ts2).pos,ts2.tail,rfl,rfl,hg2.isT h2,?_⟩
             rw[hi]at hK
             generalize e3:Lg.fn (Lg.hd ts2).pos ts2.tail=r at hK hi⊢
             cases r with
             |error q=>
              obtain⟨a,c⟩:=q;intro ts' d';simp only[go_sem];refine qqw [] [1000] ?_;simp only[go_sem];intro vs hvs _
              match vs,hvs with
              |[v1,v2,v3,v4,v5],_=>
              simp only[go_sem];refine⟨_,_,_,_,_,_,_,rfl,rfl,rfl,_,_,rfl,?_⟩;simp only[rbox,qvo,List.map_cons,List.map_nil,go_sem];exact⟨_,.cons (qzc qqp) (.cons (.rfl _) (.cons (.rfl _) .nil)),hK⟩
             |ok q=>
              obtain⟨x,ts3⟩:=q;intro hg3;have hl3:=Lg.item_eats _ _ _ hi;have hp:=hpay _ _ _ hi;simp only[if_pos hl3]at hK;simp only[go_sem]
              repeat' apply And.intro
              all_goals first
               |omega
               |(simp only[lC,qzn,lB,lH];done)
               | (refine⟨⟨(39,[]++[x],ts3),?_,hg3,?_,qzi hK (fun _ _ h=>h) (fun xs ts' e h=>?_)⟩,
                   ⟨rfl,sP4 qza,sP1 (qzd ?_ (sP2 qza)),?_⟩,hl3⟩
                  ·first|exact .inl rfl|exact .inr rfl
                  · show Lg.qvj ([]++[x])+3*ts3.length<=6291456
                    rw[qqt];omega
                  ·have h2:outT Kr ([]++x::xs):=h;simpa using h2
                  ·show _=some (Box.mk [_,_,_,_,qjp 39 ([]++[x])] _);rw[qq4];rfl
                  · show subm _ (qj5 39 ([]++[x]))
                    refine qxl ?_
                    first|rfl|(show some (5,92,_)=_;rw[qkb])))
        |cons y acc=>
         simp only[lB]at hls;simp only[go_sem];refine qz9 (wT 0 (wT 2 (wT 3 (wC 1 (wC 4 (wB 5 (wD 6 7 (wT 10 (wB 8 (wB 9 (wA 11 wZ) 11 (wA 9 wZ)) 11 (wD 8 9 wZ)))) 6 (wD 5 7 (wT 10 (wB 8 (wB 9 (wA 11 wZ) 11 (wA 9 wZ)) 11 (wD 8 9 wZ))))) 5 (wB 4 (wD 6 7 (wT 10 (wB 8 (wB 9 (wA 11 wZ) 11 (wA 9 wZ)) 11 (wD 8 9 wZ)))) 6 (wD 4 7 (wT 10 (wB 8 (wB 9 (wA 11 wZ) 11 (wA 9 wZ)) 11 (wD 8 9 wZ))))) 6 (wB 4 (wD 5 7 (wT 10 (wB 8 (wB 9 (wA 11 wZ) 11 (wA 9 wZ)) 11 (wD 8 9 wZ)))) 5 (wD 4 7 (wT 10 (wB 8 (wB 9 (wA 11 wZ) 11 (wA 9 wZ)) 11 (wD 8 9 wZ)))))) 4 (wB 1 (wB 5 (wD 6 7 (wT 10 (wB 8 (wB 9 (wA 11 wZ) 11 (wA 9 wZ)) 11 (wD 8 9 wZ)))) 6 (wD 5 7 (wT 10 (wB 8 (wB 9 (wA 11 wZ) 11 (wA 9 wZ)) 11 (wD 8 9 wZ))))) 6 (wE 1 5 7 (wT 10 (wB 8 (wB 9 (wA 11 wZ) 11 (wA 9 wZ)) 11 (wD 8 9 wZ))))) 6 (wB 1 (wB 4 (wD 5 7 (wT 10 (wB 8 (wB 9 (wA 11 wZ) 11 (wA 9 wZ)) 11 (wD 8 9 wZ)))) 5 (wD 4 7 (wT 10 (wB 8 (wB 9 (wA 11 wZ) 11 (wA 9 wZ)) 11 (wD 8 9 wZ))))) 4 (wE 1 5 7 (wT 10 (wB 8 (wB 9 (wA 11 wZ) 11 (wA 9 wZ)) 11 (wD 8 9 wZ))))))))) ?_;simp only[go_sem]
         repeat' apply And.intro
         all_goals first
          |omega
          | (refine⟨(Lg.hd ts2).pos,ts2.tail,rfl,rfl,hg2.isT h2,?_⟩
             rw[hi]at hK
             generalize e3:Lg.fn (Lg.hd ts2).pos ts2.tail=r at hK hi⊢
             cases r with
             |error q=>
              obtain⟨a,c⟩:=q;intro ts' d';simp only[go_sem];refine qqw [] [1000] ?_;simp only[go_sem];intro vs hvs _
              match vs,hvs with
              |[v1,v2,v3,v4,v5],_=>
              simp only[go_sem];refine⟨_,_,_,_,_,_,_,rfl,rfl,rfl,_,_,rfl,?_⟩;simp only[rbox,qvo,List.map_cons,List.map_nil,go_sem];exact⟨_,.cons (qzc qqp) (.cons (.rfl _) (.cons (.rfl _) .nil)),hK⟩
             |ok q=>
              obtain⟨x,ts3⟩:=q;intro hg3;have hl3:=Lg.item_eats _ _ _ hi;have hp:=hpay _ _ _ hi;simp only[if_pos hl3]at hK;simp only[go_sem]
              repeat' apply And.intro
              all_goals first
               |omega
               |(simp only[lC,qzn,lB,lH];done)
               | (refine⟨⟨(51,(y::acc)++[x],ts3),?_,hg3,?_,qzi hK (fun _ _ h=>h) (fun xs ts' e h=>?_)⟩,
                   ⟨rfl,sP4 qza,sP1 (qzd ?_ (sP2 qza)),?_⟩,hl3⟩
                  ·first|exact .inl rfl|exact .inr rfl
                  · show Lg.qvj ((y::acc)++[x])+3*ts3.length<=6291456
                    rw[qqt];omega
                  ·have h2:outT Kr ((y::acc)++x::xs):=h;simpa using h2
                  ·show _=some (Box.mk [_,_,_,_,qjp 51 ((y::acc)++[x])] _);rw[qq4];rfl
                  · show subm _ (qj5 51 ((y::acc)++[x]))
                    refine qxl ?_
                    first|rfl|(show some (5,92,_)=_;rw[qkb])))
    · skip
      rcases hd with rfl|rfl
      · cases acc with
        |nil=>
         simp only[go_sem];refine⟨Lg.sType,ts2,0,rfl,rfl,hg2,?_⟩
         have hi0:Lg.item ts2=Lg.bnd (Lg.must Lg.sType ts2) fun _ ts'=>Lg.typ (Lg.hd ts2).pos ts':=by unfold Lg.item;rw[if_neg (qzg h2)]
         rw[hi0]at hK
         generalize e4:Lg.must Lg.sType ts2=r4 at hK hi0⊢
         cases r4 with
         |error q=>
          obtain⟨a,c⟩:=q;intro ts' d';simp only[go_sem];refine qqw [] [1000] ?_;simp only[go_sem];intro vs hvs _
          match vs,hvs with
          |[v1,v2,v3,v4,v5],_=>
          simp only[go_sem];refine⟨_,_,_,_,_,_,_,rfl,rfl,rfl,_,_,rfl,?_⟩;simp only[rbox,qvo,List.map_cons,List.map_nil,go_sem];exact⟨_,.cons (qzc qqp) (.cons (.rfl _) (.cons (.rfl _) .nil)),hK⟩
         |ok q=>
         obtain⟨x0,ts4⟩:=q;intro hg4;have hi:Lg.item ts2=Lg.typ (Lg.hd ts2).pos ts4:=hi0;simp only[go_sem];refine qz9 (wT 0 (wT 2 (wT 3 (wC 1 (wC 4 (wB 5 (wD 6 7 (wT 10 (wB 8 (wB 9 (wA 11 wZ) 11 (wA 9 wZ)) 11 (wD 8 9 wZ)))) 6 (wD 5 7 (wT 10 (wB 8 (wB 9 (wA 11 wZ) 11 (wA 9 wZ)) 11 (wD 8 9 wZ))))) 5 (wB 4 (wD 6 7 (wT 10 (wB 8 (wB 9 (wA 11 wZ) 11 (wA 9 wZ)) 11 (wD 8 9 wZ)))) 6 (wD 4 7 (wT 10 (wB 8 (wB 9 (wA 11 wZ) 11 (wA 9 wZ)) 11 (wD 8 9 wZ))))) 6 (wB 4 (wD 5 7 (wT 10 (wB 8 (wB 9 (wA 11 wZ) 11 (wA 9 wZ)) 11 (wD 8 9 wZ)))) 5 (wD 4 7 (wT 10 (wB 8 (wB 9 (wA 11 wZ) 11 (wA 9 wZ)) 11 (wD 8 9 wZ)))))) 4 (wB 1 (wB 5 (wD 6 7 (wT 10 (wB 8 (wB 9 (wA 11 wZ) 11 (wA 9 wZ)) 11 (wD 8 9 wZ)))) 6 (wD 5 7 (wT 10 (wB 8 (wB 9 (wA 11 wZ) 11 (wA 9 wZ)) 11 (wD 8 9 wZ))))) 6 (wE 1 5 7 (wT 10 (wB 8 (wB 9 (wA 11 wZ) 11 (wA 9 wZ)) 11 (wD 8 9 wZ))))) 6 (wB 1 (wB 4 (wD 5 7 (wT 10 (wB 8 (wB 9 (wA 11 wZ) 11 (wA 9 wZ)) 11 (wD 8 9 wZ)))) 5 (wD 4 7 (wT 10 (wB 8 (wB 9 (wA 11 wZ) 11 (wA 9 wZ)) 11 (wD 8 9 wZ))))) 4 (wE 1 5 7 (wT 10 (wB 8 (wB 9 (wA 11 wZ) 11 (wA 9 wZ)) 11 (wD 8 9 wZ))))))))) ?_;simp only[go_sem]
         repeat' apply And.intro
         all_goals first
          |omega
          | (refine⟨(Lg.hd ts2).pos,ts4,0,rfl,rfl,hg4,?_⟩
             rw[qwg]at hK
             generalize e3:Lg.typ (Lg.hd ts2).pos ts4=r at hK hi⊢
             cases r with
             |error q=>
              obtain⟨a,c⟩:=q;intro ts' d';simp only[go_sem];refine qqw [] [1000] ?_;simp only[go_sem];intro vs hvs _
              match vs,hvs with
              |[v1,v2,v3,v4,v5],_=>
              simp only[go_sem];refine⟨_,_,_,_,_,_,_,rfl,rfl,rfl,_,_,rfl,?_⟩;simp only[rbox,qvo,List.map_cons,List.map_nil,go_sem];exact⟨_,.cons (qzc qqp) (.cons (.rfl _) (.cons (.rfl _) .nil)),hK⟩
             |ok q=>
              obtain⟨x,ts3⟩:=q;intro hg3;have hl3:=Lg.item_eats _ _ _ hi;have hp:=hpay _ _ _ hi;simp only[if_pos hl3]at hK;simp only[go_sem]
              repeat' apply And.intro
              all_goals first
               |omega
               |(simp only[lC,qzn,lB,lH];done)
               | (refine⟨⟨(51,[]++[x],ts3),?_,hg3,?_,qzi hK (fun _ _ h=>h) (fun xs ts' e h=>?_)⟩,
                   ⟨rfl,sP4 qza,sP1 (qzd ?_ (sP2 qza)),?_⟩,hl3⟩
                  ·first|exact .inl rfl|exact .inr rfl
                  · show Lg.qvj ([]++[x])+3*ts3.length<=6291456
                    rw[qqt];omega
                  ·have h2:outT Kr ([]++x::xs):=h;simpa using h2
                  ·show _=some (Box.mk [_,_,_,_,qjp 51 ([]++[x])] _);rw[qq4];rfl
                  · show subm _ (qj5 51 ([]++[x]))
                    refine qxl ?_
                    first|rfl|(show some (5,92,_)=_;rw[qkb])))
        |cons y acc=>
         simp only[lB]at hls;simp only[go_sem];refine⟨Lg.sType,ts2,0,rfl,rfl,hg2,?_⟩
         have hi0:Lg.item ts2=Lg.bnd (Lg.must Lg.sType ts2) fun _ ts'=>Lg.typ (Lg.hd ts2).pos ts':=by unfold Lg.item;rw[if_neg (qzg h2)]
         rw[hi0]at hK
         generalize e4:Lg.must Lg.sType ts2=r4 at hK hi0⊢
         cases r4 with
         |error q=>
          obtain⟨a,c⟩:=q;intro ts' d';simp only[go_sem];refine qqw [] [1000] ?_;simp only[go_sem];intro vs hvs _
          match vs,hvs with
          |[v1,v2,v3,v4,v5],_=>
          simp only[go_sem];refine⟨_,_,_,_,_,_,_,rfl,rfl,rfl,_,_,rfl,?_⟩;simp only[rbox,qvo,List.map_cons,List.map_nil,go_sem];exact⟨_,.cons (qzc qqp) (.cons (.rfl _) (.cons (.rfl _) .nil)),hK⟩
         |ok q=>
         obtain⟨x0,ts4⟩:=q;intro hg4;have hi:Lg.item ts2=Lg.typ (Lg.hd ts2).pos ts4:=hi0;simp only[go_sem];refine qz9 (wT 0 (wT 2 (wT 3 (wC 1 (wC 4 (wB 5 (wD 6 7 (wT 10 (wB 8 (wB 9 (wA 11 wZ) 11 (wA 9 wZ)) 11 (wD 8 9 wZ)))) 6 (wD 5 7 (wT 10 (wB 8 (wB 9 (wA 11 wZ) 11 (wA 9 wZ)) 11 (wD 8 9 wZ))))) 5 (wB 4 (wD 6 7 (wT 10 (wB 8 (wB 9 (wA 11 wZ) 11 (wA 9 wZ)) 11 (wD 8 9 wZ)))) 6 (wD 4 7 (wT 10 (wB 8 (wB 9 (wA 11 wZ) 11 (wA 9 wZ)) 11 (wD 8 9 wZ))))) 6 (wB 4 (wD 5 7 (wT 10 (wB 8 (wB 9 (wA 11 wZ) 11 (wA 9 wZ)) 11 (wD 8 9 wZ)))) 5 (wD 4 7 (wT 10 (wB 8 (wB 9 (wA 11 wZ) 11 (wA 9 wZ)) 11 (wD 8 9 wZ)))))) 4 (wB 1 (wB 5 (wD 6 7 (wT 10 (wB 8 (wB 9 (wA 11 wZ) 11 (wA 9 wZ)) 11 (wD 8 9 wZ)))) 6 (wD 5 7 (wT 10 (wB 8 (wB 9 (wA 11 wZ) 11 (wA 9 wZ)) 11 (wD 8 9 wZ))))) 6 (wE 1 5 7 (wT 10 (wB 8 (wB 9 (wA 11 wZ) 11 (wA 9 wZ)) 11 (wD 8 9 wZ))))) 6 (wB 1 (wB 4 (wD 5 7 (wT 10 (wB 8 (wB 9 (wA 11 wZ) 11 (wA 9 wZ)) 11 (wD 8 9 wZ)))) 5 (wD 4 7 (wT 10 (wB 8 (wB 9 (wA 11 wZ) 11 (wA 9 wZ)) 11 (wD 8 9 wZ))))) 4 (wE 1 5 7 (wT 10 (wB 8 (wB 9 (wA 11 wZ) 11 (wA 9 wZ)) 11 (wD 8 9 wZ))))))))) ?_;simp only[go_sem]
         repeat' apply And.intro
         all_goals first
          |omega
          | (refine⟨(Lg.hd ts2).pos,ts4,0,rfl,rfl,hg4,?_⟩
             rw[qwg]at hK
             generalize e3:Lg.typ (Lg.hd ts2).pos ts4=r at hK hi⊢
             cases r with
             |error q=>
              obtain⟨a,c⟩:=q;intro ts' d';simp only[go_sem];refine qqw [] [1000] ?_;simp only[go_sem];intro vs hvs _
              match vs,hvs with
              |[v1,v2,v3,v4,v5],_=>
              simp only[go_sem];refine⟨_,_,_,_,_,_,_,rfl,rfl,rfl,_,_,rfl,?_⟩;simp only[rbox,qvo,List.map_cons,List.map_nil,go_sem];exact⟨_,.cons (qzc qqp) (.cons (.rfl _) (.cons (.rfl _) .nil)),hK⟩
             |ok q=>
              obtain⟨x,ts3⟩:=q;intro hg3;have hl3:=Lg.item_eats _ _ _ hi;have hp:=hpay _ _ _ hi;simp only[if_pos hl3]at hK;simp only[go_sem]
              repeat' apply And.intro
              all_goals first
               |omega
               |(simp only[lC,qzn,lB,lH];done)
               | (refine⟨⟨(39,(y::acc)++[x],ts3),?_,hg3,?_,qzi hK (fun _ _ h=>h) (fun xs ts' e h=>?_)⟩,
                   ⟨rfl,sP4 qza,sP1 (qzd ?_ (sP2 qza)),?_⟩,hl3⟩
                  ·first|exact .inl rfl|exact .inr rfl
                  · show Lg.qvj ((y::acc)++[x])+3*ts3.length<=6291456
                    rw[qqt];omega
                  ·have h2:outT Kr ((y::acc)++x::xs):=h;simpa using h2
                  ·show _=some (Box.mk [_,_,_,_,qjp 39 ((y::acc)++[x])] _);rw[qq4];rfl
                  · show subm _ (qj5 39 ((y::acc)++[x]))
                    refine qxl ?_
                    first|rfl|(show some (5,92,_)=_;rw[qkb])))
      · cases acc with
        |nil=>
         simp only[go_sem];refine⟨Lg.sType,ts2,0,rfl,rfl,hg2,?_⟩
         have hi0:Lg.item ts2=Lg.bnd (Lg.must Lg.sType ts2) fun _ ts'=>Lg.typ (Lg.hd ts2).pos ts':=by unfold Lg.item;rw[if_neg (qzg h2)]
         rw[hi0]at hK
         generalize e4:Lg.must Lg.sType ts2=r4 at hK hi0⊢
         cases r4 with
         |error q=>
          obtain⟨a,c⟩:=q;intro ts' d';simp only[go_sem];refine qqw [] [1000] ?_;simp only[go_sem];intro vs hvs _
          match vs,hvs with
          |[v1,v2,v3,v4,v5],_=>
          simp only[go_sem];refine⟨_,_,_,_,_,_,_,rfl,rfl,rfl,_,_,rfl,?_⟩;simp only[rbox,qvo,List.map_cons,List.map_nil,go_sem];exact⟨_,.cons (qzc qqp) (.cons (.rfl _) (.cons (.rfl _) .nil)),hK⟩
         |ok q=>
         obtain⟨x0,ts4⟩:=q;intro hg4;have hi:Lg.item ts2=Lg.typ (Lg.hd ts2).pos ts4:=hi0;simp only[go_sem];refine qz9 (wT 0 (wT 2 (wT 3 (wC 1 (wC 4 (wB 5 (wD 6 7 (wT 10 (wB 8 (wB 9 (wA 11 wZ) 11 (wA 9 wZ)) 11 (wD 8 9 wZ)))) 6 (wD 5 7 (wT 10 (wB 8 (wB 9 (wA 11 wZ) 11 (wA 9 wZ)) 11 (wD 8 9 wZ))))) 5 (wB 4 (wD 6 7 (wT 10 (wB 8 (wB 9 (wA 11 wZ) 11 (wA 9 wZ)) 11 (wD 8 9 wZ)))) 6 (wD 4 7 (wT 10 (wB 8 (wB 9 (wA 11 wZ) 11 (wA 9 wZ)) 11 (wD 8 9 wZ))))) 6 (wB 4 (wD 5 7 (wT 10 (wB 8 (wB 9 (wA 11 wZ) 11 (wA 9 wZ)) 11 (wD 8 9 wZ)))) 5 (wD 4 7 (wT 10 (wB 8 (wB 9 (wA 11 wZ) 11 (wA 9 wZ)) 11 (wD 8 9 wZ)))))) 4 (wB 1 (wB 5 (wD 6 7 (wT 10 (wB 8 (wB 9 (wA 11 wZ) 11 (wA 9 wZ)) 11 (wD 8 9 wZ)))) 6 (wD 5 7 (wT 10 (wB 8 (wB 9 (wA 11 wZ) 11 (wA 9 wZ)) 11 (wD 8 9 wZ))))) 6 (wE 1 5 7 (wT 10 (wB 8 (wB 9 (wA 11 wZ) 11 (wA 9 wZ)) 11 (wD 8 9 wZ))))) 6 (wB 1 (wB 4 (wD 5 7 (wT 10 (wB 8 (wB 9 (wA 11 wZ) 11 (wA 9 wZ)) 11 (wD 8 9 wZ)))) 5 (wD 4 7 (wT 10 (wB 8 (wB 9 (wA 11 wZ) 11 (wA 9 wZ)) 11 (wD 8 9 wZ))))) 4 (wE 1 5 7 (wT 10 (wB 8 (wB 9 (wA 11 wZ) 11 (wA 9 wZ)) 11 (wD 8 9 wZ))))))))) ?_;simp only[go_sem]
         repeat' apply And.intro
         all_goals first
          |omega
          | (refine⟨(Lg.hd ts2).pos,ts4,0,rfl,rfl,hg4,?_⟩
             rw[qwg]at hK
             generalize e3:Lg.typ (Lg.hd ts2).pos ts4=r at hK hi⊢
             cases r with
             |error q=>
              obtain⟨a,c⟩:=q;intro ts' d';simp only[go_sem];refine qqw [] [1000] ?_;simp only[go_sem];intro vs hvs _
              match vs,hvs with
              |[v1,v2,v3,v4,v5],_=>
              simp only[go_sem];refine⟨_,_,_,_,_,_,_,rfl,rfl,rfl,_,_,rfl,?_⟩;simp only[rbox,qvo,List.map_cons,List.map_nil,go_sem];exact⟨_,.cons (qzc qqp) (.cons (.rfl _) (.cons (.rfl _) .nil)),hK⟩
             |ok q=>
              obtain⟨x,ts3⟩:=q;intro hg3;have hl3:=Lg.item_eats _ _ _ hi;have hp:=hpay _ _ _ hi;simp only[if_pos hl3]at hK;simp only[go_sem]
              repeat' apply And.intro
              all_goals first
               |omega
               |(simp only[lC,qzn,lB,lH];done)
               | (refine⟨⟨(51,[]++[x],ts3),?_,hg3,?_,qzi hK (fun _ _ h=>h) (fun xs ts' e h=>?_)⟩,
                   ⟨rfl,sP4 qza,sP1 (qzd ?_ (sP2 qza)),?_⟩,hl3⟩
                  ·first|exact .inl rfl|exact .inr rfl
                  · show Lg.qvj ([]++[x])+3*ts3.length<=6291456
                    rw[qqt];omega
                  ·have h2:outT Kr ([]++x::xs):=h;simpa using h2
                  ·show _=some (Box.mk [_,_,_,_,qjp 51 ([]++[x])] _);rw[qq4];rfl
                  · show subm _ (qj5 51 ([]++[x]))
                    refine qxl ?_
                    first|rfl|(show some (5,92,_)=_;rw[qkb])))
        |cons y acc=>
         simp only[lB]at hls;simp only[go_sem];refine⟨Lg.sType,ts2,0,rfl,rfl,hg2,?_⟩
         have hi0:Lg.item ts2=Lg.bnd (Lg.must Lg.sType ts2) fun _ ts'=>Lg.typ (Lg.hd ts2).pos ts':=by unfold Lg.item;rw[if_neg (qzg h2)]
         rw[hi0]at hK
         generalize e4:Lg.must Lg.sType ts2=r4 at hK hi0⊢
         cases r4 with
         |error q=>
          obtain⟨a,c⟩:=q;intro ts' d';simp only[go_sem];refine qqw [] [1000] ?_;simp only[go_sem];intro vs hvs _
          match vs,hvs with
          |[v1,v2,v3,v4,v5],_=>
          simp only[go_sem];refine⟨_,_,_,_,_,_,_,rfl,rfl,rfl,_,_,rfl,?_⟩;simp only[rbox,qvo,List.map_cons,List.map_nil,go_sem];exact⟨_,.cons (qzc qqp) (.cons (.rfl _) (.cons (.rfl _) .nil)),hK⟩
         |ok q=>
         obtain⟨x0,ts4⟩:=q;intro hg4;have hi:Lg.item ts2=Lg.typ (Lg.hd ts2).pos ts4:=hi0;simp only[go_sem];refine qz9 (wT 0 (wT 2 (wT 3 (wC 1 (wC 4 (wB 5 (wD 6 7 (wT 10 (wB 8 (wB 9 (wA 11 wZ) 11 (wA 9 wZ)) 11 (wD 8 9 wZ)))) 6 (wD 5 7 (wT 10 (wB 8 (wB 9 (wA 11 wZ) 11 (wA 9 wZ)) 11 (wD 8 9 wZ))))) 5 (wB 4 (wD 6 7 (wT 10 (wB 8 (wB 9 (wA 11 wZ) 11 (wA 9 wZ)) 11 (wD 8 9 wZ)))) 6 (wD 4 7 (wT 10 (wB 8 (wB 9 (wA 11 wZ) 11 (wA 9 wZ)) 11 (wD 8 9 wZ))))) 6 (wB 4 (wD 5 7 (wT 10 (wB 8 (wB 9 (wA 11 wZ) 11 (wA 9 wZ)) 11 (wD 8 9 wZ)))) 5 (wD 4 7 (wT 10 (wB 8 (wB 9 (wA 11 wZ) 11 (wA 9 wZ)) 11 (wD 8 9 wZ)))))) 4 (wB 1 (wB 5 (wD 6 7 (wT 10 (wB 8 (wB 9 (wA 11 wZ) 11 (wA 9 wZ)) 11 (wD 8 9 wZ)))) 6 (wD 5 7 (wT 10 (wB 8 (wB 9 (wA 11 wZ) 11 (wA 9 wZ)) 11 (wD 8 9 wZ))))) 6 (wE 1 5 7 (wT 10 (wB 8 (wB 9 (wA 11 wZ) 11 (wA 9 wZ)) 11 (wD 8 9 wZ))))) 6 (wB 1 (wB 4 (wD 5 7 (wT 10 (wB 8 (wB 9 (wA 11 wZ) 11 (wA 9 wZ)) 11 (wD 8 9 wZ)))) 5 (wD 4 7 (wT 10 (wB 8 (wB 9 (wA 11 wZ) 11 (wA 9 wZ)) 11 (wD 8 9 wZ))))) 4 (wE 1 5 7 (wT 10 (wB 8 (wB 9 (wA 11 wZ) 11 (wA 9 wZ)) 11 (wD 8 9 wZ))))))))) ?_;simp only[go_sem]
         repeat' apply And.intro
         all_goals first
          |omega
          | (refine⟨(Lg.hd ts2).pos,ts4,0,rfl,rfl,hg4,?_⟩
             rw[qwg]at hK
             generalize e3:Lg.typ (Lg.hd ts2).pos ts4=r at hK hi⊢
             cases r with
             |error q=>
              obtain⟨a,c⟩:=q;intro ts' d';simp only[go_sem];refine qqw [] [1000] ?_;simp only[go_sem];intro vs hvs _
              match vs,hvs with
              |[v1,v2,v3,v4,v5],_=>
              simp only[go_sem];refine⟨_,_,_,_,_,_,_,rfl,rfl,rfl,_,_,rfl,?_⟩;simp only[rbox,qvo,List.map_cons,List.map_nil,go_sem];exact⟨_,.cons (qzc qqp) (.cons (.rfl _) (.cons (.rfl _) .nil)),hK⟩
             |ok q=>
              obtain⟨x,ts3⟩:=q;intro hg3;have hl3:=Lg.item_eats _ _ _ hi;have hp:=hpay _ _ _ hi;simp only[if_pos hl3]at hK;simp only[go_sem]
              repeat' apply And.intro
              all_goals first
               |omega
               |(simp only[lC,qzn,lB,lH];done)
               | (refine⟨⟨(51,(y::acc)++[x],ts3),?_,hg3,?_,qzi hK (fun _ _ h=>h) (fun xs ts' e h=>?_)⟩,
                   ⟨rfl,sP4 qza,sP1 (qzd ?_ (sP2 qza)),?_⟩,hl3⟩
                  ·first|exact .inl rfl|exact .inr rfl
                  · show Lg.qvj ((y::acc)++[x])+3*ts3.length<=6291456
                    rw[qqt];omega
                  ·have h2:outT Kr ((y::acc)++x::xs):=h;simpa using h2
                  ·show _=some (Box.mk [_,_,_,_,qjp 51 ((y::acc)++[x])] _);rw[qq4];rfl
                  · show subm _ (qj5 51 ((y::acc)++[x]))
                    refine qxl ?_
                    first|rfl|(show some (5,92,_)=_;rw[qkb])))
  · rw[if_pos (by simpa using h)]at hK
    have hT:outT Kr acc:=by
     have h2:outT Kr (acc++[]):=hK
     rwa [List.append_nil]at h2
    have hz:Lg.size (.node 0 [] 0 0 acc)<=9223372036854775807:=by
     rw[zk9]
     show 1+Lg.qvj acc<=_
     omega
    unfold outT at hT
    rcases hd with rfl|rfl
    all_goals
     cases acc with
     |nil=>
      simp only[go_sem];refine⟨_,.node 0 [] 0 0 [],rfl,qzc qqp,hz,?_⟩;simp only[go_sem]
      refine⟨fun h4=>?_,fun h4=>?_⟩
      ·rw[if_pos (by have:=lF h4;omega)]at hT;refine qqw [] [] ?_;simp only[go_sem];refine⟨_,_,_,_,_,_,_,rfl,rfl,rfl,?_⟩;simp only[rbox,qvo,List.map_cons,List.map_nil,go_sem];exact⟨_,.cons (qzc qqp) (.cons (.rfl _) (.cons (.rfl _) .nil)),hT⟩
      ·rw[if_neg (by have:=lG h4;omega)]at hT;refine qqw [] [] ?_;simp only[go_sem];refine⟨_,_,_,_,_,_,_,rfl,rfl,rfl,?_⟩;simp only[rbox,qvo,List.map_cons,List.map_nil,go_sem];exact⟨_,.cons (qzc qqp) (.cons (.rfl _) (.cons (.rfl _) .nil)),hT⟩
     |cons y acc=>
      simp only[go_sem];refine⟨_,.node 0 [] 0 0 (y::acc),rfl,qzc (.rfl _),hz,?_⟩;simp only[go_sem]
      refine⟨fun h4=>?_,fun h4=>?_⟩
      ·rw[if_pos (by have:=lF h4;omega)]at hT;refine qqw [] [] ?_;simp only[go_sem];refine⟨_,_,_,_,_,_,_,rfl,rfl,rfl,?_⟩;simp only[rbox,qvo,List.map_cons,List.map_nil,go_sem];exact⟨_,.cons (qzc qqp) (.cons (.rfl _) (.cons (.rfl _) .nil)),hT⟩
      ·rw[if_neg (by have:=lG h4;omega)]at hT;refine qqw [] [] ?_;simp only[go_sem];refine⟨_,_,_,_,_,_,_,rfl,rfl,rfl,?_⟩;simp only[rbox,qvo,List.map_cons,List.map_nil,go_sem];exact⟨_,.cons (qzc (.rfl _)) (.cons (.rfl _) (.cons (.rfl _) .nil)),hT⟩
end Lx
namespace Lg
theorem qqg {α:Type}{x y:α}{ts ts':List Tok}(h:(.ok (x,ts):PR α)=.ok (y,ts')):x=y/\ts=ts':=by
 simp only[Except.ok.injEq,Prod.mk.injEq]at h;exact h
theorem qz2 (k:Int)(t:Bs)(n p:Int)(ks:List Tree):size (.node k t n p ks)=1+qvj ks:=by rw[size]
theorem qzz:qvj []=0:=by rw[qvj]
theorem qz1 (x:Tree)(xs:List Tree):qvj (x::xs)=size x+qvj xs:=by rw[qvj]
theorem qvu (xs ys:List Tree):qvj (xs++ys)=qvj xs+qvj ys:=by
 induction xs with
 |nil=>simp[qzz]
 |cons x xs ih=>simp only[List.cons_append,qz1,ih];omega
theorem qkp (t:Tree):size t=1+qvj t.kids:=by cases t;rw[qz2];rfl
theorem qqu {ts ts':List Tok}{x:Tree}(h:name ts=.ok (x,ts')):size x=1/\ts'.length+1<=ts.length:=by
 have:=qql ts _ _ h;rw[name_eq h,qz2,qzz];exact⟨rfl,this⟩
theorem number_pay {n:Int}{ts ts':List Tok}{x:Int}(h:zzr n ts=.ok (x,ts')):ts'.length+1<=ts.length:=qxr n ts _ _ h
theorem qq3 {s:Bs}{ts ts':List Tok}{x:Unit}(h:must s ts=.ok (x,ts')):ts'.length+1<=ts.length:=qqn s ts _ _ h
theorem qk2 (t:Tree)(k:Int):size (t.withKind k)=size t:=by cases t;simp only[Tree.withKind,qz2]
theorem qvw (t:Tree)(k:Int):size (t.withNum k)=size t:=by cases t;simp only[Tree.withNum,qz2]
theorem qvv (t:Tree)(k:Int):size (t.withPos k)=size t:=by cases t;simp only[Tree.withPos,qz2]
theorem qqs (t:Tree)(ks:List Tree):size (t.withKids ks)=1+qvj ks:=by cases t;simp only[Tree.withKids,qz2]
theorem more_pay {n x:Tree}{ts ts':List Tok}(h:more n ts=.ok (x,ts')):size x=size n/\ts'.length<=ts.length:=by
 refine⟨?_,zqi n ts _ _ h⟩;unfold more at h;split at h
 ·obtain⟨v,ts1,_,h⟩:=qzs h;obtain⟨rfl,_⟩:=qqg h;exact qvw _ _
 · split at h
   ·obtain⟨v,ts1,_,h⟩:=qzs h;obtain⟨rfl,_⟩:=qqg h;exact qvw _ _
   ·obtain⟨rfl,_⟩:=qqg h;rfl
theorem qk1 {x:Tree}{ts ts':List Tok}(h:term ts=.ok (x,ts')):size x=1/\ts'.length+1<=ts.length:=by
 refine⟨?_,qxy ts _ _ h⟩;unfold term at h;split at h
 ·obtain⟨v,ts1,_,h⟩:=qzs h;obtain⟨rfl,_⟩:=qqg h;rw[qz2,qzz]
 · split at h
   ·obtain⟨v,ts1,_,h⟩:=qzs h;obtain⟨rfl,_⟩:=qqg h;rw[qz2,qzz]
   ·obtain⟨v,ts1,e,h⟩:=qzs h;rw[(more_pay h).1,(qqu e).1]
theorem cmp_pay {x:Bs}{ts ts':List Tok}(h:cmp ts=.ok (x,ts')):ts'.length+1<=ts.length:=cmp_eats ts _ _ h
theorem fact_pay {x:Tree}{ts ts':List Tok}(h:fact ts=.ok (x,ts')):size x+3*ts'.length<=3*ts.length:=by
 obtain⟨a,ts1,e1,h⟩:=qzs h;obtain⟨op,ts2,e2,h⟩:=qzs h;obtain⟨b,ts3,e3,h⟩:=qzs h;obtain⟨rfl,rfl⟩:=qqg h;have h1:=qk1 e1;have h2:=cmp_pay e2;have h3:=qk1 e3;rw[qz2,qz1,qz1,qzz];omega
theorem listTail_pay {one:List Tok->PR Tree}(hone:∀ts x ts',one ts=.ok (x,ts')->size x+3*ts'.length<=3*ts.length)(n:Nat):∀(ts:List Tok),ts.length=n->∀xs ts',qxj one ts=.ok (xs,ts')->qvj xs+3*ts'.length<=3*ts.length:=by
 induction n using Nat.strongRecOn with
 |_ n ih=>
  intro ts hn xs ts' h;rw[qxj]at h;split at h
  · split at h
    ·cases h
    · rename_i x ts1 e;have h1:=hone _ _ _ e;have h2:=qz4 ts;split at h
      ·obtain⟨ys,ts2,e2,h⟩:=qzs h;have:=ih ts1.length (by omega) ts1 rfl ys ts2 e2;obtain⟨rfl,rfl⟩:=qqg h;rw[qz1];omega
      ·cases h
  ·obtain⟨rfl,rfl⟩:=qqg h;rw[qzz];omega
theorem zxe {one:List Tok->PR Tree}(hone:∀ts x ts',one ts=.ok (x,ts')->size x+3*ts'.length<=3*ts.length){ts ts':List Tok}{xs:List Tree}(h:list one ts=.ok (xs,ts')):qvj xs+3*ts'.length<=3*ts.length:=by
 obtain⟨x,ts1,e,h⟩:=qzs h;obtain⟨ys,ts2,e2,h⟩:=qzs h;obtain⟨rfl,rfl⟩:=qqg h;have h1:=hone _ _ _ e;have h2:=listTail_pay hone _ ts1 rfl _ _ e2;rw[qz1];omega
theorem term_pay':∀ts x ts',term ts=.ok (x,ts')->size x+3*ts'.length<=3*ts.length:=fun ts x ts' h=>by have:=qk1 h;omega
theorem zwp {ts ts':List Tok}{xs:List Tree}(h:args ts=.ok (xs,ts')):qvj xs+3*ts'.length+6<=3*ts.length:=by
 obtain⟨_,ts1,e1,h⟩:=qzs h;have h1:=qq3 e1;split at h
 ·rename_i hr;have:=qxa hr;obtain⟨rfl,rfl⟩:=qqg h;rw[qzz];omega
 ·obtain⟨ys,ts2,e2,h⟩:=qzs h;obtain⟨_,ts3,e3,h⟩:=qzs h;obtain⟨rfl,rfl⟩:=qqg h;have h2:=zxe term_pay' e2;have h3:=qq3 e3;omega
theorem sort_pay {x:Tree}{ts ts':List Tok}(h:sort ts=.ok (x,ts')):size x+3*ts'.length<=3*ts.length:=by
 unfold sort at h;split at h
 · rename_i hr;have:=qxa hr
   obtain⟨rfl,rfl⟩:=qqg h;rw[qz2,qzz];omega
 · split at h
   · rename_i hr;have:=qxa hr
     obtain⟨rfl,rfl⟩:=qqg h;rw[qz2,qzz];omega
   · split at h
     ·obtain⟨k,ts1,e,h⟩:=qzs h;obtain⟨rfl,rfl⟩:=qqg h;have h1:=qqu e;have h2:=qz4 ts;rw[qz2,qz1,qzz];omega
     ·cases h
theorem field_pay:∀ts x ts',field ts=.ok (x,ts')->size x+3*ts'.length<=3*ts.length:=fun ts x ts' h=>by
 obtain⟨n,ts1,e,h⟩:=qzs h;have h1:=qqu e;split at h
 ·obtain⟨k,ts2,e2,h⟩:=qzs h;obtain⟨_,ts3,e3,h⟩:=qzs h;obtain⟨rfl,rfl⟩:=qqg h;have h2:=qqu e2;have h3:=qq3 e3;have h4:=qz4 ts1;rw[qqs,qz1,qzz];omega
 ·obtain⟨rfl,rfl⟩:=qqg h;rw[qk2];omega
theorem mode_pay {x:Tree}{ts ts':List Tok}(h:mode ts=.ok (x,ts')):size x+3*ts'.length<=3*ts.length:=by
 unfold mode at h;split at h
 · rename_i hr;have:=qxa hr
   obtain⟨rfl,rfl⟩:=qqg h;rw[qz2,qzz];omega
 · split at h
   ·obtain⟨k,ts1,e,h⟩:=qzs h;obtain⟨rfl,rfl⟩:=qqg h;have h1:=qqu e;have h2:=qz4 ts;rw[qz2,qz1,qzz];omega
   · obtain⟨_,ts1,e,h⟩:=qzs h;have h0:=qq3 e;split at h
     ·obtain⟨k,ts2,e2,h⟩:=qzs h;obtain⟨rfl,rfl⟩:=qqg h;have h1:=qqu e2;have h2:=qz4 ts1;rw[qz2,qz1,qzz];omega
     ·obtain⟨k,ts2,e2,h⟩:=qzs h;obtain⟨rfl,rfl⟩:=qqg h;have h1:=qqu e2;rw[qz2,qz1,qzz];omega
theorem param_pay:∀ts x ts',param ts=.ok (x,ts')->size x+3*ts'.length<=3*ts.length:=fun ts x ts' h=>by
 obtain⟨n,ts1,e,h⟩:=qzs h;obtain⟨_,ts2,e2,h⟩:=qzs h;obtain⟨m,ts3,e3,h⟩:=qzs h;obtain⟨rfl,rfl⟩:=qqg h;have h1:=qqu e;have h2:=qq3 e2;have h3:=mode_pay e3;rw[qqs,qz1,qzz];omega
theorem qjm {n x:Tree}{ts ts':List Tok}(h:zjh n ts=.ok (x,ts')):x=n/\ts'.length+1<=ts.length:=by
 obtain⟨_,ts1,e,h⟩:=qzs h;obtain⟨rfl,rfl⟩:=qqg h;exact⟨rfl,qq3 e⟩
theorem zkh {k:Int}{x:Tree}{ts ts':List Tok}(h:nameAt k ts=.ok (x,ts')):size x=1/\ts'.length+1<=ts.length:=by
 refine⟨?_,qw8 k ts _ _ h⟩;obtain⟨n,ts1,e,h⟩:=qzs h;obtain⟨_,ts2,_,h⟩:=qzs h;obtain⟨v,ts3,_,h⟩:=qzs h;obtain⟨_,ts4,_,h⟩:=qzs h;obtain⟨rfl,rfl⟩:=qqg h;rw[qvw,qk2];exact(qqu e).1
theorem expr_pay {x:Tree}{ts ts':List Tok}(h:expr ts=.ok (x,ts')):size x+3*ts'.length<=3*ts.length:=by
 unfold expr at h;split at h
 · rename_i hr;have h0:=qxa hr
   obtain⟨v,ts1,e,h⟩:=qzs h;obtain⟨rfl,rfl⟩:=qqg h;have:=number_pay e;rw[qz2,qzz];omega
 split at h
 · rename_i hr;have h0:=qxa hr
   obtain⟨v,ts1,e,h⟩:=qzs h;obtain⟨rfl,rfl⟩:=qqg h;have:=qqu e;rw[qz2,qzz];omega
 split at h
 · rename_i hr;have h0:=qxa hr
   split at h
   ·obtain⟨v,ts1,e,h⟩:=qzs h;obtain⟨rfl,rfl⟩:=qqg h;have:=qqu e;have:=qz4 ts.tail;rw[qz2,qzz];omega
   ·obtain⟨v,ts1,e,h⟩:=qzs h;obtain⟨rfl,rfl⟩:=qqg h;have:=qqu e;rw[qz2,qzz];omega
 split at h
 ·exact term_pay' _ _ _ h
 obtain⟨n,ts1,e,h⟩:=qzs h;have h1:=qqu e;split at h
 ·obtain⟨xs,ts2,e2,h⟩:=qzs h;obtain⟨rfl,rfl⟩:=qqg h;have:=zwp e2;rw[qqs];omega
 split at h
 ·obtain⟨k,ts2,e2,h⟩:=qzs h;obtain⟨_,ts3,e3,h⟩:=qzs h;obtain⟨rfl,rfl⟩:=qqg h;have:=qk1 e2;have:=qq3 e3;have:=qz4 ts1;rw[qqs,qz1,qzz];omega
 split at h
 ·rename_i hr;simp only[Bool.and_eq_true]at hr;have h0:=qxa hr.1;obtain⟨k,ts2,e2,h⟩:=qzs h;obtain⟨rfl,rfl⟩:=qqg h;have:=qqu e2;rw[qz2,qz1,qz1,qzz];omega
 split at h
 ·rename_i hr;simp only[Bool.and_eq_true]at hr;have h0:=qxa hr.1;obtain⟨k,ts2,e2,h⟩:=qzs h;obtain⟨rfl,rfl⟩:=qqg h;have:=qqu e2;rw[qz2,qz1,qz1,qzz];omega
 ·have:=more_pay h;omega
theorem named_pay {n x:Tree}(hn:size n=1){ts ts':List Tok}(h:named n ts=.ok (x,ts')):size x+3*ts'.length<=3*ts.length+1:=by
 unfold named at h;split at h
 ·obtain⟨xs,ts2,e2,h⟩:=qzs h;obtain⟨rfl,rfl⟩:=qqg h;have:=zwp e2;rw[qz2,qz1,qzz,qqs];omega
 split at h
 ·obtain⟨a,ts1,e1,h⟩:=qzs h;obtain⟨_,ts2,e2,h⟩:=qzs h;obtain⟨_,ts3,e3,h⟩:=qzs h;obtain⟨b,ts4,e4,h⟩:=qzs h;obtain⟨rfl,rfl⟩:=qqg h;have:=qk1 e1;have:=qq3 e2;have:=qq3 e3;have:=qk1 e4;have:=qz4 ts;rw[qqs,qz1,qz1,qzz];omega
 ·obtain⟨_,ts1,e1,h⟩:=qzs h;obtain⟨b,ts2,e2,h⟩:=qzs h;obtain⟨rfl,rfl⟩:=qqg h;have:=qq3 e1;have:=expr_pay e2;rw[qqs,qz1,qzz];omega
def PayF (f:List Tok->PR Tree):Prop:=∀ts x ts',f ts=.ok (x,ts')->size x+3*ts'.length<=3*ts.length
theorem zkw {block:List Tok->PR Tree}(hb:PayF block){k at_:Int}{x:Tree}{ts ts':List Tok}(h:zkx block k at_ ts=.ok (x,ts')):size x+3*ts'.length<=3*ts.length:=by
 obtain⟨n,ts1,e1,h⟩:=qzs h;obtain⟨b,ts2,e2,h⟩:=qzs h;obtain⟨rfl,rfl⟩:=qqg h;have h1:=fact_pay e1;have h2:=hb _ _ _ e2;rw[qz2,qvu,qz1,qzz];rw[qkp]at h1;omega
theorem stmt_pay {block:List Tok->PR Tree}(hb:PayF block):PayF (stmt block):=fun ts x ts' h=>by
 unfold stmt at h;split at h
 · rename_i hr;have h0:=qxa hr
   obtain⟨n,ts1,e,h⟩:=qzs h;obtain⟨rfl,h2⟩:=qjm h;have:=qqu e;rw[qvv,qk2];omega
 split at h
 · rename_i hr;have h0:=qxa hr
   obtain⟨n,ts1,e,h⟩:=qzs h;obtain⟨rfl,h2⟩:=qjm h;have:=zkh e;rw[qvv];omega
 split at h
 · rename_i hr;have h0:=qxa hr
   obtain⟨n,ts1,e,h⟩:=qzs h;obtain⟨rfl,h2⟩:=qjm h;have:=zkh e;rw[qvv];omega
 split at h
 · rename_i hr;have h0:=qxa hr
   obtain⟨n,ts1,e,h⟩:=qzs h;have h1:=zkw hb e;rw[qkp]at h1;split at h
   ·obtain⟨b,ts2,e2,h⟩:=qzs h;obtain⟨rfl,rfl⟩:=qqg h;have h2:=hb _ _ _ e2;have:=qz4 ts1;rw[qqs,qvu,qz1,qzz];omega
   ·obtain⟨rfl,rfl⟩:=qqg h;rw[qqs,qvu,qz1,qzz,qz2,qzz];omega
 split at h
 ·have h1:=zkw hb h;have:=qz4 ts;omega
 split at h
 · rename_i hr;have h0:=qxa hr
   split at h
   ·obtain⟨rfl,h2⟩:=qjm h;rw[qz2,qzz];omega
   ·obtain⟨y,ts1,e,h⟩:=qzs h;obtain⟨rfl,h2⟩:=qjm h;have:=qk1 e;rw[qz2,qz1,qzz];omega
 split at h
 · rename_i hr;have h0:=qxa hr
   obtain⟨rfl,h2⟩:=qjm h;rw[qz2,qzz];omega
 split at h
 · rename_i hr;have h0:=qxa hr
   obtain⟨n,ts1,e,h⟩:=qzs h;obtain⟨xs,ts2,e2,h⟩:=qzs h;obtain⟨rfl,h2⟩:=qjm h;have:=qqu e;have:=zwp e2;rw[qz2];omega
 ·obtain⟨n,ts1,e,h⟩:=qzs h;obtain⟨m,ts2,e2,h⟩:=qzs h;obtain⟨rfl,h2⟩:=qjm h;have h3:=qqu e;have:=named_pay h3.1 e2;omega
theorem stmts_pay {one:List Tok->PR Tree}(hone:PayF one)(n:Nat):∀(ts:List Tok),ts.length=n->∀xs ts',stmts one ts=.ok (xs,ts')->qvj xs+3*ts'.length<=3*ts.length:=by
 induction n using Nat.strongRecOn with
 |_ n ih=>
  intro ts hn xs ts' h;rw[stmts]at h;split at h
  ·obtain⟨rfl,rfl⟩:=qqg h;have:=qz4 ts;rw[qzz];omega
  · split at h
    ·cases h
    · rename_i x ts1 e;have h1:=hone _ _ _ e;split at h
      ·obtain⟨ys,ts2,e2,h⟩:=qzs h;have:=ih ts1.length (by omega) ts1 rfl ys ts2 e2;obtain⟨rfl,rfl⟩:=qqg h;rw[qz1];omega
      ·cases h
theorem block_pay:∀n,PayF (block n)
 |0=>fun ts x ts' h=>by
  rw[block]at h;split at h<;>cases h
 |n+1=>fun ts x ts' h=>by
  rw[block]at h;obtain⟨_,ts1,e1,h⟩:=qzs h;obtain⟨xs,ts2,e2,h⟩:=qzs h;obtain⟨rfl,rfl⟩:=qqg h;have:=qq3 e1;have:=stmts_pay (stmt_pay (block_pay n)) _ ts1 rfl _ _ e2;rw[qz2];omega
theorem zqx {n x:Tree}{ts ts':List Tok}(h:qxw n ts=.ok (x,ts')):size x+3*ts'.length<=3*ts.length+size n:=by
 unfold qxw at h;split at h
 ·obtain⟨fs,ts1,e1,h⟩:=qzs h;obtain⟨_,ts2,e2,h⟩:=qzs h;obtain⟨rfl,rfl⟩:=qqg h;have:=zxe (fun _ _ _ h=>fact_pay h) e1;have:=qq3 e2;have:=qz4 ts;rw[qqs,qvu,qkp n];omega
 ·obtain⟨_,ts2,e2,h⟩:=qzs h;obtain⟨rfl,rfl⟩:=qqg h;have:=qq3 e2;omega
theorem typ_pay (at_:Int):PayF (typ at_):=fun ts x ts' h=>by
 obtain⟨n,ts1,e1,h⟩:=qzs h;obtain⟨s,ts2,e2,h⟩:=qzs h;have h1:=qqu e1;have h2:=sort_pay e2;split at h
 ·obtain⟨fs,ts3,e3,h⟩:=qzs h;obtain⟨_,ts4,e4,h⟩:=qzs h;have h3:=zxe field_pay e3;have h4:=qq3 e4;have h5:=zqx h;have:=qz4 ts2;rw[qz2,qz1]at h5;omega
 ·have h5:=zqx h;rw[qz2,qz1,qzz]at h5;omega
theorem fnParams_pay {xs:List Tree}{ts ts':List Tok}(h:zxi ts=.ok (xs,ts')):qvj xs+3*ts'.length+6<=3*ts.length:=by
 obtain⟨_,ts1,e1,h⟩:=qzs h;have h1:=qq3 e1;split at h
 · rename_i hr;have:=qxa hr
   obtain⟨rfl,rfl⟩:=qqg h;rw[qzz];omega
 ·obtain⟨ps,ts2,e2,h⟩:=qzs h;obtain⟨_,ts3,e3,h⟩:=qzs h;obtain⟨rfl,rfl⟩:=qqg h;have h2:=zxe param_pay e2;have h3:=qq3 e3;omega
theorem fnRet_pay {x:Tree}{ts ts':List Tok}(h:fnRet ts=.ok (x,ts')):size x+3*ts'.length<=3*ts.length+1:=by
 unfold fnRet at h;split at h
 · split at h
   ·cases h
   ·have:=mode_pay h;have:=qz4 ts;omega
 ·obtain⟨rfl,rfl⟩:=qqg h;rw[qz2,qzz];omega
theorem fn_pay (at_:Int):PayF (fn at_):=fun ts x ts' h=>by
 obtain⟨n,ts1,e1,h⟩:=qzs h;obtain⟨ps,ts2,e2,h⟩:=qzs h;obtain⟨r,ts3,e3,h⟩:=qzs h;obtain⟨b,ts4,e4,h⟩:=qzs h;obtain⟨rfl,rfl⟩:=qqg h;have h1:=qqu e1;have h2:=fnParams_pay e2;have h3:=fnRet_pay e3;have h4:=block_pay 8 _ _ _ e4;rw[qz2,qvu,qz1,qz1,qzz];omega
theorem item_pay:PayF item:=fun ts x ts' h=>by
 unfold item at h;split at h
 ·have h1:=fn_pay _ _ _ _ h;have:=qz4 ts;omega
 ·obtain⟨_,ts1,e1,h⟩:=qzs h;have h1:=qq3 e1;have h2:=typ_pay _ _ _ _ h;omega
end Lg
