import Derived.Test.YtkknljojdgpdaaaGreatDoorB09
import Derived.Test.YtkknljojdgpdaaaGreatDoorB11
import Derived.Test.YtkknljojdgpdaaaGreatDoorB13
import Derived.Test.YtkknljojdgpdaaaGreatDoorB10
import Derived.Test.YtkknljojdgpdaaaGreatDoorB12
import Derived.Lib.IndexLaws
import Derived.Lib.ParseIntBCases
import Derived.Lib.SmallJoins
set_option maxHeartbeats 32000000
set_option linter.unusedSimpArgs false
set_option linter.unusedVariables false
namespace Lx
open Go
@[go_sem ↓]theorem ww5 (pk:List Nat)(K:Bx->Prop)(s:S):clK pk K .normal s=(okD s.bx pk/\K (outB pk s.bx)):=(rfl)
@[go_sem ↓]theorem jky (pk:List Nat)(K:Bx->Prop)(s:S):clK pk K .ret s=(okD s.bx pk/\K (outB pk s.bx)):=(rfl)
@[go_sem ↓]theorem wv6 (E:Env)(sp:FuncId->Option SpecX)(d n:Nat)(cs:List Nat)(B2:Code)(Sc:qxR)(rs:List ResultVar)(Fk:List LV->S->Prop)(s:S):
   ww4 E sp d n cs B2 Sc rs Fk .normal s=evW s (fun s=>qxU (wzS E sp d n cs B2 Sc rs Fk s) ⟨⟩) ⟨⟩:=(rfl)
@[go_sem ↓]theorem yvS (E:Env)(sp:FuncId->Option SpecX)(d n:Nat)(cs:List Nat)(B2:Code)(Sc:qxR)(rs:List ResultVar)(Fk:List LV->S->Prop)(s:S):
   ww4 E sp d n cs B2 Sc rs Fk .ret s=resK E rs s fun xs=>Fk xs s:=(rfl)
@[go_sem ↓]theorem wvw (E:Env)(n:Nat)(Sc:qxR)(rs:List ResultVar)(Fk:List LV->S->Prop)(s:S):yvJ E n Sc rs Fk .normal s=wzd E n Sc rs Fk none s:=(rfl)
@[go_sem ↓]theorem yvI (E:Env)(n:Nat)(Sc:qxR)(rs:List ResultVar)(Fk:List LV->S->Prop)(s:S):yvJ E n Sc rs Fk .ret s=wzd E n Sc rs Fk none s:=(rfl)
@[go_sem ↓]theorem jjY (E:Env)(n:Nat)(Sc:qxR)(rs:List ResultVar)(Fk:List LV->S->Prop)(mo:Option D)(s:S):wzd E n Sc rs Fk mo s=evW s (fun s=>qxU (wzd E n Sc rs Fk mo s) ⟨⟩) ⟨⟩:=(rfl)
theorem qqc {E:Env}{n:Nat}{Sc:qxR}{rs:List ResultVar}{Fk:List LV->S->Prop}{mo:Option D}{s:S}{w:Ph (wzd E n Sc rs Fk mo s)}(l bl:List Nat)(h:wxe l s fun s=>zj2 bl s fun s=>wvx E n Sc rs Fk mo s):qxU (wzd E n Sc rs Fk mo s) w:=⟨l,bl,h⟩
@[go_sem ↓]theorem yxD (s:S)(K:S->Prop):zj2 [] s K=K s:=(rfl)
@[go_sem ↓]theorem ww6 (k:Nat)(l:List Nat)(s:S)(K:S->Prop):zj2 (k::l) s K=sm (s.bx k) fun b=>evW s (fun s=>evW b (fun b=>qxU (yxE s k b fun s=>zj2 l s K) ⟨⟩) ⟨⟩) ⟨⟩:=(rfl)
@[go_sem ↓]theorem yvK (E:Env)(n:Nat)(Sc:qxR)(rs:List ResultVar)(Fk:List LV->S->Prop)(mo:Option D)(s:S):
   wvx E n Sc rs Fk mo s=(evW (capK n) (fun ks=>okB s.bx ks/\evW s (fun s=>qxU (Sc mo (fp ks s.bx) fun bx4=>resK E rs {s with bx:=mrg ks bx4 s.bx} fun xs=>Fk xs {s with bx:=mrg ks bx4 s.bx}) ⟨⟩) ⟨⟩) ⟨⟩):=(rfl)
@[go_sem]theorem kjl:capK 1=[1000]:=(rfl)
@[go_sem]theorem kjk:capK 2=[1000,1001]:=(rfl)
@[go_sem]theorem kjj:capK 3=[1000,1001,1002]:=(rfl)
@[go_sem]theorem kji:capK 4=[1000,1001,1002,1003]:=(rfl)
@[go_sem]theorem yqi:yqj none=.imm .nilIface:=(rfl)
@[go_sem]theorem yqh (d:D):yqj (some d)=d:=(rfl)
@[go_sem]theorem kvk:bps 1=[.bp 1000 0]:=(rfl)
@[go_sem]theorem kvj:bps 2=[.bp 1000 0,.bp 1001 0]:=(rfl)
@[go_sem]theorem kvi:bps 3=[.bp 1000 0,.bp 1001 0,.bp 1002 0]:=(rfl)
@[go_sem]theorem kvh:bps 4=[.bp 1000 0,.bp 1001 0,.bp 1002 0,.bp 1003 0]:=(rfl)
@[go_sem]theorem yqX:zqe []=nix:=(rfl)
@[go_sem]theorem wwv (i:Nat)(x:LV)(l:List (Nat×LV)):zqe ((i,x)::l)=put i x (zqe l):=(rfl)
@[go_sem]theorem jjS (bx:Bx)(i:Nat):fpl bx i []=nix:=(rfl)
@[go_sem]theorem yvE (bx:Bx)(i k:Nat)(ks:List Nat):fpl bx i (k::ks)=match bx k with|some b=>put i b (fpl bx (i+1) ks)|none=>fpl bx (i+1) ks:=(rfl)
@[go_sem]theorem qzC:ovS nix nix=nix:=by
  funext j;unfold ovS;split<;>rfl
theorem zzC {E:Env}{sp:FuncId->Option SpecX}{d n:Nat}{cs:List Nat}{B2:Code}{Sc:qxR}{rs:List ResultVar}{Fk:List LV->S->Prop}{s:S}{w:Ph (wzS E sp d n cs B2 Sc rs Fk s)}
  (ks:List Nat)(L:List (Nat×LV))(h1:d<s.n)(h2:∀p∈L,p.1≠d)(h3:nodup ks=true)(h4:okB s.bx ks)(h5:n<=ks.length)(h6:cs.map s.tm=(ks.take n).map (fun k=>some (.bp k 0)))(h7:∀p∈L,s.tm p.1=some p.2)(h8:∀k∈kyss (L.map (·.2)),k∈ks)
  (h:evW (ovS s.bx (fpl s.bx 1000 ks)) (fun b2=>evW (⟨s.n,zqe (L.map fun p=>(p.1,ren ks p.2)),b2,nix⟩:S) (fun s2=>cK E sp B2 s2 (yvJ E n Sc rs Fk) (fun d s'=>wzd E n Sc rs Fk (some d) s')) ⟨⟩) ⟨⟩)(h9:qj5 ks=true:=by decide):qxU (wzS E sp d n cs B2 Sc rs Fk s) w:=
 ⟨ks,L,h1,h2,h3,h9,h4,h5,h6,h7,h8,h⟩
@[go_sem]theorem yqC (k1 k2 k3:Nat)(B1 B2 B3:Box)(bx:Bx):mrg [k1,k2,k3] (put 1000 B1 (put 1001 B2 (put 1002 B3 nix))) bx=put k1 B1 (put k2 B2 (put k3 B3 bx)):=by
  funext j;by_cases e1:j=k1;{subst e1;simp[mrg,ixof,put]};{by_cases e2:j=k2;{subst e2;simp[mrg,ixof,put,e1]};{by_cases e3:j=k3;{subst e3;simp[mrg,ixof,put,e1,e2]};{simp[mrg,put,e1,e2,e3]}}}
theorem zzU {E:Env}{sp:FuncId->Option SpecX}{ops:Array Oper}{l:List Oper}{s:S}{K:S->Prop}{Kp:D->S->Prop}
  (h:evW (ops.toList.map (·.dst)) (fun ds=>evW (l.map o3) (fun l=>qwR E sp ds l s K Kp) ⟨⟩) ⟨⟩):zxG E sp ops l s K Kp:=(qwq E sp ops l s K Kp).symm▸h
end Lx
set_option maxRecDepth 20000
namespace Lx
open Go
open Lg (Tok Tree)
open Go.Proofs (Tryz.prog)
open Go.Proofs.Tryz
def zqC (x:List D)(a e:Int):Bx:=put 1000 ⟨x.map .d,92⟩ (put 1001 ⟨[iD a],3⟩ (put 1002 ⟨[iD e],40⟩ nix))
def qjA:List D:=[.int .i64 0,.st [],.int .i64 0,.int .i64 0,.imm (.slice none 0 0)]
def kky:qxR:=fun m bx K=>∃x1 x2 x3 x4 x5 a e,bx 1000=some ⟨[.d x1,.d x2,.d x3,.d x4,.d x5],92⟩/\bx 1001=some ⟨[iD a],3⟩/\bx 1002=some ⟨[iD e],40⟩/\
 match m with
 |none=>K (zqC [x1,x2,x3,x4,x5] a e)
 |some d=>∃p c,d=.ifc 145 (.ag [.int .i64 p,.int .i64 c])/\K (zqC qjA p c)
theorem yqg:OKD Tryz.prog 41 3 kky:=by
 refine zq1 qzu (E:=EV) (sp:=spL []) qzt qzl (OKs.ok trivial) func41 rfl ntmps41 results41 rfl rfl rfl call41 ?_;rintro mo bx K ⟨x1,x2,x3,x4,x5,a,e,h0,h1,h2,hK⟩;refine⟨[(1000,⟨[.d x1,.d x2,.d x3,.d x4,.d x5],92⟩),(1001,⟨[iD a],3⟩),(1002,⟨[iD e],40⟩)],rfl,⟨by decide,h0,by decide,h1,by decide,h2,trivial⟩,by decide,by decide,?_⟩;refine zzU ?_;cases mo with|none=>{simp only[go_sem];exact hK}|some d=>{obtain⟨p,c,rfl,hK⟩:=hK;simp only[go_sem];refine qz9 (wT 1 (wT 3 (wC 0 (wC 2 (wB 4 (wE 5 6 7 wZ) 5 (wB 4 (wD 6 7 wZ) 6 (wD 4 7 wZ))) 4 (wB 2 (wE 5 6 7 wZ) 5 (wE 2 6 7 wZ)) 5 (wB 2 (wB 4 (wD 6 7 wZ) 6 (wD 4 7 wZ)) 4 (wE 2 6 7 wZ))) 2 (wB 0 (wB 4 (wE 5 6 7 wZ) 5 (wB 4 (wD 6 7 wZ) 6 (wD 4 7 wZ))) 4 (wF 0 5 6 7 wZ)) 4 (wB 0 (wB 2 (wE 5 6 7 wZ) 5 (wE 2 6 7 wZ)) 2 (wF 0 5 6 7 wZ))))) ?_;simp only[go_sem];(repeat' apply And.intro);all_goals exact hK}
def zzn:qzP:=fun ys bx Kr _=>∃l,ys=[.d (.st l)]/\match Lg.qwW l with
 |.ok t=>Kr (.tup [.d (qzr t),iD 0,iD 0]) nix none
 |.error (a,c)=>Kr (.tup [.d (qzr (.node 0 [] 0 0 [])),iD a,iD c]) nix none
abbrev EP:Env:=mkE false (fun _=>false) (fun j=> !(j==2||j==3||j==4))
theorem qxF (y:Tree)(acc:List Tree)(u:D)(x:Tree):(qze (y::acc)++[u]).set ((acc.length:Int)+1).toNat (qzr x)=qze (y::acc)++[qzr x]:=by
 have e:((acc.length:Int)+1).toNat=(qze (y::acc)).length:=by{rw[qzn,lB];omega};rw[e];simp
theorem qzX (xs:List Tree)(x:Tree):Lg.qj4 (xs++[x])=Lg.qj4 xs+Lg.size x:=by
 induction xs with|nil=>{simp[Lg.qj4]}|cons y xs ih=>{simp only[List.cons_append,Lg.qj4,ih];omega}
theorem yxt:OK Tryz.prog 44 (fun ys bx Kr Kp=>∃at_,fnS at_ ys bx Kr Kp) where
 enters:=call44
 calls ys bx Kr Kp h:=by obtain⟨at_,h⟩:=h;exact(yxs wv3 at_).calls ys bx Kr Kp h
theorem wj3:OK Tryz.prog 46 (fun ys bx Kr Kp=>∃at_,qxY qzr (Lg.typ at_) [iD at_] ys bx Kr Kp) where
 enters:=call46
 calls ys bx Kr Kp h:=by obtain⟨at_,h⟩:=h;exact(yzt at_).calls ys bx Kr Kp h
def wq6 (Kr:LV->Bx->Ar1->Prop)(a c:Int):Prop:=Kr (.tup [.d (qzr (.node 0 [] 0 0 [])),iD a,iD c]) nix none
def qkS (Kr:LV->Bx->Ar1->Prop)(xs:List Tree):Prop:=if 4096<Lg.size (.node 0 [] 0 0 xs)then wq6 Kr 0 22 else Kr (.tup [.d (qzr (.node 0 [] 0 0 xs)),iD 0,iD 0]) nix none
theorem wq3 (hpay:∀ts x ts',Lg.zko ts=.ok (x,ts')->Lg.size x+3*ts'.length<=3*ts.length)(htoks:OK Tryz.prog 40 zv5):OK Tryz.prog 20 zzn:=by
 refine wjj qzu (E:=EP) (sp:=spL [(40,zv5),(42,qvt),(43,zqD),(44,.a fun ys bx Kr Kp=>∃at_,fnS at_ ys bx Kr Kp),(46,.a fun ys bx Kr Kp=>∃at_,qxY qzr (Lg.typ at_) [iD at_] ys bx Kr Kp),(45,qkU),(47,zvK 9223372036854775807)]) qzt qzl (OKs.ok ⟨htoks,qxq,qxm,yxt,wj3,qqY,zvJ _ (by decide),trivial⟩) (cs:=[2,3,4]) (n:=3) (d:=19) yqg func20 rfl ntmps20 results20 call20 (.more _ (.more _ (.one _ _))) rfl rfl rfl rfl rfl rfl rfl rfl ?_;rintro ys bx Kr Kp ⟨l,rfl,hK⟩;refine⟨rfl,by simp,?_⟩;simp only[go_sem];refine⟨l,rfl,?_⟩;unfold Lg.qwW at hK;cases htk:Lg.jqv l with|error p=>{obtain⟨a,c⟩:=p;rw[htk]at hK;intro hc;simp only[go_sem];refine⟨fun h=>?_,fun h=>?_⟩;{refine qz9 (wC 0 (wC 1 (wB 2 (wE 3 4 5 wZ) 3 (wB 2 (wD 4 5 wZ) 4 (wD 2 5 wZ))) 2 (wB 1 (wE 3 4 5 wZ) 3 (wE 1 4 5 wZ)) 3 (wB 1 (wB 2 (wD 4 5 wZ) 4 (wD 2 5 wZ)) 2 (wE 1 4 5 wZ))) 1 (wB 0 (wB 2 (wE 3 4 5 wZ) 3 (wB 2 (wD 4 5 wZ) 4 (wD 2 5 wZ))) 2 (wF 0 3 4 5 wZ)) 2 (wB 0 (wB 1 (wE 3 4 5 wZ) 3 (wE 1 4 5 wZ)) 1 (wF 0 3 4 5 wZ))) ?_;simp only[go_sem];(repeat' apply And.intro);all_goals exact⟨_,.cons (qzc qzQ) (.cons (.rfl _) (.cons (.rfl _) .nil)),hK⟩};exact absurd (by simpa using h) hc}|ok ts=>{rw[htk]at hK;intro hg;simp only[go_sem];refine zzC [2,3,4] [(2,.bp 2 0),(3,.bp 3 0),(4,.bp 4 0),(5,.d (.sl 4 (ts.map qqa) false))] ?_ ?_ rfl ?_ ?_ ?_ ?_ ?_ ?_;{show 19<59;decide};{intro p hp;simp only[List.mem_cons,List.not_mem_nil,or_false]at hp;rcases hp with rfl|rfl|rfl|rfl<;>simp};exact⟨⟨_,rfl,rfl⟩,⟨_,rfl,rfl⟩,⟨_,rfl,rfl⟩,trivial⟩;decide;rfl;{intro p hp;simp only[List.mem_cons,List.not_mem_nil,or_false]at hp;rcases hp with rfl|rfl|rfl|rfl<;>rfl};{intro k hk;simpa[kyss,kys]using hk};simp only[go_sem];replace hK:post (Lg.qw1 ts) (fun xs _=>qkS Kr xs) (wq6 Kr):=by{have hK':(match Lg.qjP ts with|.ok t=>Kr (.tup [.d (qzr t),iD 0,iD 0]) nix none|.error (a,c)=>wq6 Kr a c):=hK;unfold Lg.qjP at hK';cases hit:Lg.qw1 ts with|error p=>{obtain⟨a,c⟩:=p;rw[hit]at hK';exact hK'}|ok p=>{obtain⟨xs,ts'⟩:=p;rw[hit]at hK';show qkS Kr xs;unfold qkS;simp only at hK';split;{rename_i h;rw[if_pos h]at hK';exact hK'};{rename_i h;rw[if_neg h]at hK';exact hK'}}};have hl0:=hg.2;refine qzj (T:={t:Nat×List Tree×List Tok //(t.1=39\/t.1=51)/\qjk t.2.2/\Lg.qj4 t.2.1+3*t.2.2.length<=6291456/\post (Lg.qw1 t.2.2) (fun xs _=>qkS Kr (t.2.1++xs)) (wq6 Kr)}) (fun t=>⟨59,put 2 (.bp 1000 0) (put 3 (.bp 1001 0) (put 4 (.bp 1002 0) (put 6 (.bp 22 0) nix))),put 22 (qqd t.1.2.2 0) (put 1000 ⟨[iD 0,.d (.st []),iD 0,iD 0,qxs t.1.1 t.1.2.1],92⟩ (put 1001 ⟨[iD 0],3⟩ (put 1002 ⟨[iD 0],40⟩ nix))),qx8 t.1.1 t.1.2.1⟩) (fun t=>t.1.2.2.length) ⟨(39,[],ts),.inl rfl,hg,by simp only[Lg.qj4];omega,qqn hK (fun _ _ h=>h) (fun _ _ _ h=>h)⟩ ⟨rfl,sP4 qza,sP4 qza,qza⟩ ?_;rintro⟨⟨d,acc,ts2⟩,hd0,hg20,hb20,hK0⟩;have hd:d=39\/d=51:=hd0;have hg2:qjk ts2:=hg20;have hb2:Lg.qj4 acc+3*ts2.length<=6291456:=hb20;have hK:post (Lg.qw1 ts2) (fun xs _=>qkS Kr (acc++xs)) (wq6 Kr):=hK0;have hlen:=hg2.2;have hls:=qx5 acc;rw[Lg.qw1]at hK;simp only[go_sem];refine⟨ts2,0,rfl,rfl,hg2,?_⟩;simp only[go_sem];refine⟨fun h=>?_,fun h=>?_⟩;{rw[if_neg (by simpa using h)]at hK;refine⟨ts2,0,rfl,rfl,hg2,?_⟩;simp only[go_sem];refine⟨ts2,0,Lg.sFn,rfl,rfl,hg2,fun h2=>?_,fun h2=>?_⟩;{have hi:Lg.zko ts2=Lg.fn (Lg.hd ts2).pos ts2.tail:=by{unfold Lg.zko;rw[if_pos h2]};rcases hd with rfl|rfl;{cases acc with|nil=>{simp only[go_sem];refine qz9 wkb ?_;simp only[go_sem];(repeat' apply And.intro);all_goals first|(omega)|(refine⟨(Lg.hd ts2).pos,ts2.tail,rfl,rfl,hg2.isT h2,?_⟩;rw[hi]at hK;generalize e3:Lg.fn (Lg.hd ts2).pos ts2.tail=r at hK hi⊢;cases r with|error q=>{obtain⟨a,c⟩:=q;intro ts' d';simp only[go_sem];refine qqc [] [1000] ?_;simp only[go_sem];intro vs hvs _;match vs,hvs with|[v1,v2,v3,v4,v5],_=>{simp only[go_sem];refine⟨_,_,_,_,_,_,_,rfl,rfl,rfl,_,_,rfl,?_⟩;simp only[zqC,qjA,List.map_cons,List.map_nil,go_sem];exact⟨_,.cons (qzc qzQ) (.cons (.rfl _) (.cons (.rfl _) .nil)),hK⟩}}|ok q=>{obtain⟨x,ts3⟩:=q;intro hg3;have hl3:=Lg.yxe _ _ _ hi;have hp:=hpay _ _ _ hi;simp only[if_pos hl3]at hK;simp only[go_sem];(repeat' apply And.intro);all_goals first|(omega)|((simp only[lC,qzn,lB,lH];done))|(refine⟨⟨(39,[]++[x],ts3),?_,hg3,?_,qzi hK (fun _ _ h=>h) (fun xs ts' e h=>?_)⟩,⟨rfl,sP4 qza,sP1 (qzd ?_ (sP2 qza)),?_⟩,hl3⟩;{first|exact .inl rfl|exact .inr rfl};{show Lg.qj4 ([]++[x])+3*ts3.length<=6291456;rw[qzX];omega};{have h2:qkS Kr ([]++x::xs):=h;simpa using h2};{show _=some (Box.mk [_,_,_,_,qxs 39 ([]++[x])] _);rw[qql];rfl};{show qqW _ (qx8 39 ([]++[x]));refine qq6 ?_;first|rfl|(show some (5,92,_)=_;rw[qxF])})})}|cons y acc=>{simp only[lB]at hls;simp only[go_sem];refine qz9 wkb ?_;simp only[go_sem];(repeat' apply And.intro);all_goals first|(omega)|(refine⟨(Lg.hd ts2).pos,ts2.tail,rfl,rfl,hg2.isT h2,?_⟩;rw[hi]at hK;generalize e3:Lg.fn (Lg.hd ts2).pos ts2.tail=r at hK hi⊢;cases r with|error q=>{obtain⟨a,c⟩:=q;intro ts' d';simp only[go_sem];refine qqc [] [1000] ?_;simp only[go_sem];intro vs hvs _;match vs,hvs with|[v1,v2,v3,v4,v5],_=>{simp only[go_sem];refine⟨_,_,_,_,_,_,_,rfl,rfl,rfl,_,_,rfl,?_⟩;simp only[zqC,qjA,List.map_cons,List.map_nil,go_sem];exact⟨_,.cons (qzc qzQ) (.cons (.rfl _) (.cons (.rfl _) .nil)),hK⟩}}|ok q=>{obtain⟨x,ts3⟩:=q;intro hg3;have hl3:=Lg.yxe _ _ _ hi;have hp:=hpay _ _ _ hi;simp only[if_pos hl3]at hK;simp only[go_sem];(repeat' apply And.intro);all_goals first|(omega)|((simp only[lC,qzn,lB,lH];done))|(refine⟨⟨(39,(y::acc)++[x],ts3),?_,hg3,?_,qzi hK (fun _ _ h=>h) (fun xs ts' e h=>?_)⟩,⟨rfl,sP4 qza,sP1 (qzd ?_ (sP2 qza)),?_⟩,hl3⟩;{first|exact .inl rfl|exact .inr rfl};{show Lg.qj4 ((y::acc)++[x])+3*ts3.length<=6291456;rw[qzX];omega};{have h2:qkS Kr ((y::acc)++x::xs):=h;simpa using h2};{show _=some (Box.mk [_,_,_,_,qxs 39 ((y::acc)++[x])] _);rw[qql];rfl};{show qqW _ (qx8 39 ((y::acc)++[x]));refine qq6 ?_;first|rfl|(show some (5,92,_)=_;rw[qxF])})})}};{cases acc with|nil=>{simp only[go_sem];refine qz9 wkb ?_;simp only[go_sem];(repeat' apply And.intro);all_goals first|(omega)|(refine⟨(Lg.hd ts2).pos,ts2.tail,rfl,rfl,hg2.isT h2,?_⟩;rw[hi]at hK;generalize e3:Lg.fn (Lg.hd ts2).pos ts2.tail=r at hK hi⊢;cases r with|error q=>{obtain⟨a,c⟩:=q;intro ts' d';simp only[go_sem];refine qqc [] [1000] ?_;simp only[go_sem];intro vs hvs _;match vs,hvs with|[v1,v2,v3,v4,v5],_=>{simp only[go_sem];refine⟨_,_,_,_,_,_,_,rfl,rfl,rfl,_,_,rfl,?_⟩;simp only[zqC,qjA,List.map_cons,List.map_nil,go_sem];exact⟨_,.cons (qzc qzQ) (.cons (.rfl _) (.cons (.rfl _) .nil)),hK⟩}}|ok q=>{obtain⟨x,ts3⟩:=q;intro hg3;have hl3:=Lg.yxe _ _ _ hi;have hp:=hpay _ _ _ hi;simp only[if_pos hl3]at hK;simp only[go_sem];(repeat' apply And.intro);all_goals first|(omega)|((simp only[lC,qzn,lB,lH];done))|(refine⟨⟨(39,[]++[x],ts3),?_,hg3,?_,qzi hK (fun _ _ h=>h) (fun xs ts' e h=>?_)⟩,⟨rfl,sP4 qza,sP1 (qzd ?_ (sP2 qza)),?_⟩,hl3⟩;{first|exact .inl rfl|exact .inr rfl};{show Lg.qj4 ([]++[x])+3*ts3.length<=6291456;rw[qzX];omega};{have h2:qkS Kr ([]++x::xs):=h;simpa using h2};{show _=some (Box.mk [_,_,_,_,qxs 39 ([]++[x])] _);rw[qql];rfl};{show qqW _ (qx8 39 ([]++[x]));refine qq6 ?_;first|rfl|(show some (5,92,_)=_;rw[qxF])})})}|cons y acc=>{simp only[lB]at hls;simp only[go_sem];refine qz9 wkb ?_;simp only[go_sem];(repeat' apply And.intro);all_goals first|(omega)|(refine⟨(Lg.hd ts2).pos,ts2.tail,rfl,rfl,hg2.isT h2,?_⟩;rw[hi]at hK;generalize e3:Lg.fn (Lg.hd ts2).pos ts2.tail=r at hK hi⊢;cases r with|error q=>{obtain⟨a,c⟩:=q;intro ts' d';simp only[go_sem];refine qqc [] [1000] ?_;simp only[go_sem];intro vs hvs _;match vs,hvs with|[v1,v2,v3,v4,v5],_=>{simp only[go_sem];refine⟨_,_,_,_,_,_,_,rfl,rfl,rfl,_,_,rfl,?_⟩;simp only[zqC,qjA,List.map_cons,List.map_nil,go_sem];exact⟨_,.cons (qzc qzQ) (.cons (.rfl _) (.cons (.rfl _) .nil)),hK⟩}}|ok q=>{obtain⟨x,ts3⟩:=q;intro hg3;have hl3:=Lg.yxe _ _ _ hi;have hp:=hpay _ _ _ hi;simp only[if_pos hl3]at hK;simp only[go_sem];(repeat' apply And.intro);all_goals first|(omega)|((simp only[lC,qzn,lB,lH];done))|(refine⟨⟨(51,(y::acc)++[x],ts3),?_,hg3,?_,qzi hK (fun _ _ h=>h) (fun xs ts' e h=>?_)⟩,⟨rfl,sP4 qza,sP1 (qzd ?_ (sP2 qza)),?_⟩,hl3⟩;{first|exact .inl rfl|exact .inr rfl};{show Lg.qj4 ((y::acc)++[x])+3*ts3.length<=6291456;rw[qzX];omega};{have h2:qkS Kr ((y::acc)++x::xs):=h;simpa using h2};{show _=some (Box.mk [_,_,_,_,qxs 51 ((y::acc)++[x])] _);rw[qql];rfl};{show qqW _ (qx8 51 ((y::acc)++[x]));refine qq6 ?_;first|rfl|(show some (5,92,_)=_;rw[qxF])})})}}};{skip;rcases hd with rfl|rfl;{cases acc with|nil=>{simp only[go_sem];refine⟨Lg.yzR,ts2,0,rfl,rfl,hg2,?_⟩;have hi0:Lg.zko ts2=Lg.bnd (Lg.qvV Lg.yzR ts2) fun _ ts'=>Lg.typ (Lg.hd ts2).pos ts':=by{unfold Lg.zko;rw[if_neg (qzg h2)]};rw[hi0]at hK;generalize e4:Lg.qvV Lg.yzR ts2=r4 at hK hi0⊢;cases r4 with|error q=>{obtain⟨a,c⟩:=q;intro ts' d';simp only[go_sem];refine qqc [] [1000] ?_;simp only[go_sem];intro vs hvs _;match vs,hvs with|[v1,v2,v3,v4,v5],_=>{simp only[go_sem];refine⟨_,_,_,_,_,_,_,rfl,rfl,rfl,_,_,rfl,?_⟩;simp only[zqC,qjA,List.map_cons,List.map_nil,go_sem];exact⟨_,.cons (qzc qzQ) (.cons (.rfl _) (.cons (.rfl _) .nil)),hK⟩}}|ok q=>{obtain⟨x0,ts4⟩:=q;intro hg4;have hi:Lg.zko ts2=Lg.typ (Lg.hd ts2).pos ts4:=hi0;simp only[go_sem];refine qz9 wkb ?_;simp only[go_sem];(repeat' apply And.intro);all_goals first|(omega)|(refine⟨(Lg.hd ts2).pos,ts4,0,rfl,rfl,hg4,?_⟩;rw[qkd]at hK;generalize e3:Lg.typ (Lg.hd ts2).pos ts4=r at hK hi⊢;cases r with|error q=>{obtain⟨a,c⟩:=q;intro ts' d';simp only[go_sem];refine qqc [] [1000] ?_;simp only[go_sem];intro vs hvs _;match vs,hvs with|[v1,v2,v3,v4,v5],_=>{simp only[go_sem];refine⟨_,_,_,_,_,_,_,rfl,rfl,rfl,_,_,rfl,?_⟩;simp only[zqC,qjA,List.map_cons,List.map_nil,go_sem];exact⟨_,.cons (qzc qzQ) (.cons (.rfl _) (.cons (.rfl _) .nil)),hK⟩}}|ok q=>{obtain⟨x,ts3⟩:=q;intro hg3;have hl3:=Lg.yxe _ _ _ hi;have hp:=hpay _ _ _ hi;simp only[if_pos hl3]at hK;simp only[go_sem];(repeat' apply And.intro);all_goals first|(omega)|((simp only[lC,qzn,lB,lH];done))|(refine⟨⟨(51,[]++[x],ts3),?_,hg3,?_,qzi hK (fun _ _ h=>h) (fun xs ts' e h=>?_)⟩,⟨rfl,sP4 qza,sP1 (qzd ?_ (sP2 qza)),?_⟩,hl3⟩;{first|exact .inl rfl|exact .inr rfl};{show Lg.qj4 ([]++[x])+3*ts3.length<=6291456;rw[qzX];omega};{have h2:qkS Kr ([]++x::xs):=h;simpa using h2};{show _=some (Box.mk [_,_,_,_,qxs 51 ([]++[x])] _);rw[qql];rfl};{show qqW _ (qx8 51 ([]++[x]));refine qq6 ?_;first|rfl|(show some (5,92,_)=_;rw[qxF])})})}}|cons y acc=>{simp only[lB]at hls;simp only[go_sem];refine⟨Lg.yzR,ts2,0,rfl,rfl,hg2,?_⟩;have hi0:Lg.zko ts2=Lg.bnd (Lg.qvV Lg.yzR ts2) fun _ ts'=>Lg.typ (Lg.hd ts2).pos ts':=by{unfold Lg.zko;rw[if_neg (qzg h2)]};rw[hi0]at hK;generalize e4:Lg.qvV Lg.yzR ts2=r4 at hK hi0⊢;cases r4 with|error q=>{obtain⟨a,c⟩:=q;intro ts' d';simp only[go_sem];refine qqc [] [1000] ?_;simp only[go_sem];intro vs hvs _;match vs,hvs with|[v1,v2,v3,v4,v5],_=>{simp only[go_sem];refine⟨_,_,_,_,_,_,_,rfl,rfl,rfl,_,_,rfl,?_⟩;simp only[zqC,qjA,List.map_cons,List.map_nil,go_sem];exact⟨_,.cons (qzc qzQ) (.cons (.rfl _) (.cons (.rfl _) .nil)),hK⟩}}|ok q=>{obtain⟨x0,ts4⟩:=q;intro hg4;have hi:Lg.zko ts2=Lg.typ (Lg.hd ts2).pos ts4:=hi0;simp only[go_sem];refine qz9 wkb ?_;simp only[go_sem];(repeat' apply And.intro);all_goals first|(omega)|(refine⟨(Lg.hd ts2).pos,ts4,0,rfl,rfl,hg4,?_⟩;rw[qkd]at hK;generalize e3:Lg.typ (Lg.hd ts2).pos ts4=r at hK hi⊢;cases r with|error q=>{obtain⟨a,c⟩:=q;intro ts' d';simp only[go_sem];refine qqc [] [1000] ?_;simp only[go_sem];intro vs hvs _;match vs,hvs with|[v1,v2,v3,v4,v5],_=>{simp only[go_sem];refine⟨_,_,_,_,_,_,_,rfl,rfl,rfl,_,_,rfl,?_⟩;simp only[zqC,qjA,List.map_cons,List.map_nil,go_sem];exact⟨_,.cons (qzc qzQ) (.cons (.rfl _) (.cons (.rfl _) .nil)),hK⟩}}|ok q=>{obtain⟨x,ts3⟩:=q;intro hg3;have hl3:=Lg.yxe _ _ _ hi;have hp:=hpay _ _ _ hi;simp only[if_pos hl3]at hK;simp only[go_sem];(repeat' apply And.intro);all_goals first|(omega)|((simp only[lC,qzn,lB,lH];done))|(refine⟨⟨(39,(y::acc)++[x],ts3),?_,hg3,?_,qzi hK (fun _ _ h=>h) (fun xs ts' e h=>?_)⟩,⟨rfl,sP4 qza,sP1 (qzd ?_ (sP2 qza)),?_⟩,hl3⟩;{first|exact .inl rfl|exact .inr rfl};{show Lg.qj4 ((y::acc)++[x])+3*ts3.length<=6291456;rw[qzX];omega};{have h2:qkS Kr ((y::acc)++x::xs):=h;simpa using h2};{show _=some (Box.mk [_,_,_,_,qxs 39 ((y::acc)++[x])] _);rw[qql];rfl};{show qqW _ (qx8 39 ((y::acc)++[x]));refine qq6 ?_;first|rfl|(show some (5,92,_)=_;rw[qxF])})})}}};{cases acc with|nil=>{simp only[go_sem];refine⟨Lg.yzR,ts2,0,rfl,rfl,hg2,?_⟩;have hi0:Lg.zko ts2=Lg.bnd (Lg.qvV Lg.yzR ts2) fun _ ts'=>Lg.typ (Lg.hd ts2).pos ts':=by{unfold Lg.zko;rw[if_neg (qzg h2)]};rw[hi0]at hK;generalize e4:Lg.qvV Lg.yzR ts2=r4 at hK hi0⊢;cases r4 with|error q=>{obtain⟨a,c⟩:=q;intro ts' d';simp only[go_sem];refine qqc [] [1000] ?_;simp only[go_sem];intro vs hvs _;match vs,hvs with|[v1,v2,v3,v4,v5],_=>{simp only[go_sem];refine⟨_,_,_,_,_,_,_,rfl,rfl,rfl,_,_,rfl,?_⟩;simp only[zqC,qjA,List.map_cons,List.map_nil,go_sem];exact⟨_,.cons (qzc qzQ) (.cons (.rfl _) (.cons (.rfl _) .nil)),hK⟩}}|ok q=>{obtain⟨x0,ts4⟩:=q;intro hg4;have hi:Lg.zko ts2=Lg.typ (Lg.hd ts2).pos ts4:=hi0;simp only[go_sem];refine qz9 wkb ?_;simp only[go_sem];(repeat' apply And.intro);all_goals first|(omega)|(refine⟨(Lg.hd ts2).pos,ts4,0,rfl,rfl,hg4,?_⟩;rw[qkd]at hK;generalize e3:Lg.typ (Lg.hd ts2).pos ts4=r at hK hi⊢;cases r with|error q=>{obtain⟨a,c⟩:=q;intro ts' d';simp only[go_sem];refine qqc [] [1000] ?_;simp only[go_sem];intro vs hvs _;match vs,hvs with|[v1,v2,v3,v4,v5],_=>{simp only[go_sem];refine⟨_,_,_,_,_,_,_,rfl,rfl,rfl,_,_,rfl,?_⟩;simp only[zqC,qjA,List.map_cons,List.map_nil,go_sem];exact⟨_,.cons (qzc qzQ) (.cons (.rfl _) (.cons (.rfl _) .nil)),hK⟩}}|ok q=>{obtain⟨x,ts3⟩:=q;intro hg3;have hl3:=Lg.yxe _ _ _ hi;have hp:=hpay _ _ _ hi;simp only[if_pos hl3]at hK;simp only[go_sem];(repeat' apply And.intro);all_goals first|(omega)|((simp only[lC,qzn,lB,lH];done))|(refine⟨⟨(51,[]++[x],ts3),?_,hg3,?_,qzi hK (fun _ _ h=>h) (fun xs ts' e h=>?_)⟩,⟨rfl,sP4 qza,sP1 (qzd ?_ (sP2 qza)),?_⟩,hl3⟩;{first|exact .inl rfl|exact .inr rfl};{show Lg.qj4 ([]++[x])+3*ts3.length<=6291456;rw[qzX];omega};{have h2:qkS Kr ([]++x::xs):=h;simpa using h2};{show _=some (Box.mk [_,_,_,_,qxs 51 ([]++[x])] _);rw[qql];rfl};{show qqW _ (qx8 51 ([]++[x]));refine qq6 ?_;first|rfl|(show some (5,92,_)=_;rw[qxF])})})}}|cons y acc=>{simp only[lB]at hls;simp only[go_sem];refine⟨Lg.yzR,ts2,0,rfl,rfl,hg2,?_⟩;have hi0:Lg.zko ts2=Lg.bnd (Lg.qvV Lg.yzR ts2) fun _ ts'=>Lg.typ (Lg.hd ts2).pos ts':=by{unfold Lg.zko;rw[if_neg (qzg h2)]};rw[hi0]at hK;generalize e4:Lg.qvV Lg.yzR ts2=r4 at hK hi0⊢;cases r4 with|error q=>{obtain⟨a,c⟩:=q;intro ts' d';simp only[go_sem];refine qqc [] [1000] ?_;simp only[go_sem];intro vs hvs _;match vs,hvs with|[v1,v2,v3,v4,v5],_=>{simp only[go_sem];refine⟨_,_,_,_,_,_,_,rfl,rfl,rfl,_,_,rfl,?_⟩;simp only[zqC,qjA,List.map_cons,List.map_nil,go_sem];exact⟨_,.cons (qzc qzQ) (.cons (.rfl _) (.cons (.rfl _) .nil)),hK⟩}}|ok q=>{obtain⟨x0,ts4⟩:=q;intro hg4;have hi:Lg.zko ts2=Lg.typ (Lg.hd ts2).pos ts4:=hi0;simp only[go_sem];refine qz9 wkb ?_;simp only[go_sem];(repeat' apply And.intro);all_goals first|(omega)|(refine⟨(Lg.hd ts2).pos,ts4,0,rfl,rfl,hg4,?_⟩;rw[qkd]at hK;generalize e3:Lg.typ (Lg.hd ts2).pos ts4=r at hK hi⊢;cases r with|error q=>{obtain⟨a,c⟩:=q;intro ts' d';simp only[go_sem];refine qqc [] [1000] ?_;simp only[go_sem];intro vs hvs _;match vs,hvs with|[v1,v2,v3,v4,v5],_=>{simp only[go_sem];refine⟨_,_,_,_,_,_,_,rfl,rfl,rfl,_,_,rfl,?_⟩;simp only[zqC,qjA,List.map_cons,List.map_nil,go_sem];exact⟨_,.cons (qzc qzQ) (.cons (.rfl _) (.cons (.rfl _) .nil)),hK⟩}}|ok q=>{obtain⟨x,ts3⟩:=q;intro hg3;have hl3:=Lg.yxe _ _ _ hi;have hp:=hpay _ _ _ hi;simp only[if_pos hl3]at hK;simp only[go_sem];(repeat' apply And.intro);all_goals first|(omega)|((simp only[lC,qzn,lB,lH];done))|(refine⟨⟨(51,(y::acc)++[x],ts3),?_,hg3,?_,qzi hK (fun _ _ h=>h) (fun xs ts' e h=>?_)⟩,⟨rfl,sP4 qza,sP1 (qzd ?_ (sP2 qza)),?_⟩,hl3⟩;{first|exact .inl rfl|exact .inr rfl};{show Lg.qj4 ((y::acc)++[x])+3*ts3.length<=6291456;rw[qzX];omega};{have h2:qkS Kr ((y::acc)++x::xs):=h;simpa using h2};{show _=some (Box.mk [_,_,_,_,qxs 51 ((y::acc)++[x])] _);rw[qql];rfl};{show qqW _ (qx8 51 ((y::acc)++[x]));refine qq6 ?_;first|rfl|(show some (5,92,_)=_;rw[qxF])})})}}}}};{rw[if_pos (by simpa using h)]at hK;have hT:qkS Kr acc:=by{have h2:qkS Kr (acc++[]):=hK;rwa [List.append_nil]at h2};have hz:Lg.size (.node 0 [] 0 0 acc)<=9223372036854775807:=by{rw[zzI];show 1+Lg.qj4 acc<=_;omega};unfold qkS at hT;rcases hd with rfl|rfl;all_goals cases acc with|nil=>{simp only[go_sem];refine⟨_,.node 0 [] 0 0 [],rfl,qzc qzQ,hz,?_⟩;simp only[go_sem];refine⟨fun h4=>?_,fun h4=>?_⟩;{rw[if_pos (by have:=lF h4;omega)]at hT;refine qqc [] [] ?_;simp only[go_sem];refine⟨_,_,_,_,_,_,_,rfl,rfl,rfl,?_⟩;simp only[zqC,qjA,List.map_cons,List.map_nil,go_sem];exact⟨_,.cons (qzc qzQ) (.cons (.rfl _) (.cons (.rfl _) .nil)),hT⟩};{rw[if_neg (by have:=lG h4;omega)]at hT;refine qqc [] [] ?_;simp only[go_sem];refine⟨_,_,_,_,_,_,_,rfl,rfl,rfl,?_⟩;simp only[zqC,qjA,List.map_cons,List.map_nil,go_sem];exact⟨_,.cons (qzc qzQ) (.cons (.rfl _) (.cons (.rfl _) .nil)),hT⟩}}|cons y acc=>{simp only[go_sem];refine⟨_,.node 0 [] 0 0 (y::acc),rfl,qzc (.rfl _),hz,?_⟩;simp only[go_sem];refine⟨fun h4=>?_,fun h4=>?_⟩;{rw[if_pos (by have:=lF h4;omega)]at hT;refine qqc [] [] ?_;simp only[go_sem];refine⟨_,_,_,_,_,_,_,rfl,rfl,rfl,?_⟩;simp only[zqC,qjA,List.map_cons,List.map_nil,go_sem];exact⟨_,.cons (qzc qzQ) (.cons (.rfl _) (.cons (.rfl _) .nil)),hT⟩};{rw[if_neg (by have:=lG h4;omega)]at hT;refine qqc [] [] ?_;simp only[go_sem];refine⟨_,_,_,_,_,_,_,rfl,rfl,rfl,?_⟩;simp only[zqC,qjA,List.map_cons,List.map_nil,go_sem];exact⟨_,.cons (qzc (.rfl _)) (.cons (.rfl _) (.cons (.rfl _) .nil)),hT⟩}}}}
end Lx
namespace Lg
theorem qzG {α:Type}{x y:α}{ts ts':List Tok}(h:(.ok (x,ts):PR α)=.ok (y,ts')):x=y/\ts=ts':=by
 simp only[Except.ok.injEq,Prod.mk.injEq]at h;exact h
theorem qz2 (k:Int)(t:Bs)(n p:Int)(ks:List Tree):size (.node k t n p ks)=1+qj4 ks:=by rw[size]
theorem qzz:qj4 []=0:=by rw[qj4]
theorem qz1 (x:Tree)(xs:List Tree):qj4 (x::xs)=size x+qj4 xs:=by rw[qj4]
theorem qjH (xs ys:List Tree):qj4 (xs++ys)=qj4 xs+qj4 ys:=by
 induction xs with|nil=>{simp[qzz]}|cons x xs ih=>{simp only[List.cons_append,qz1,ih];omega}
theorem qxX (t:Tree):size t=1+qj4 t.kids:=by cases t;rw[qz2];rfl
theorem qzZ {ts ts':List Tok}{x:Tree}(h:name ts=.ok (x,ts')):size x=1/\ts'.length+1<=ts.length:=by
 have:=qzL ts _ _ h;rw[wkI h,qz2,qzz];exact⟨rfl,this⟩
theorem zvd {n:Int}{ts ts':List Tok}{x:Int}(h:qkT n ts=.ok (x,ts')):ts'.length+1<=ts.length:=qqC n ts _ _ h
theorem qqk {s:Bs}{ts ts':List Tok}{x:Unit}(h:qvV s ts=.ok (x,ts')):ts'.length+1<=ts.length:=qzN s ts _ _ h
theorem qjm (t:Tree)(k:Int):size (t.withKind k)=size t:=by cases t;simp only[Tree.withKind,qz2]
theorem qjJ (t:Tree)(k:Int):size (t.withNum k)=size t:=by cases t;simp only[Tree.withNum,qz2]
theorem qjI (t:Tree)(k:Int):size (t.withPos k)=size t:=by cases t;simp only[Tree.withPos,qz2]
theorem qzW (t:Tree)(ks:List Tree):size (t.withKids ks)=1+qj4 ks:=by cases t;simp only[Tree.withKids,qz2]
theorem zkc {n x:Tree}{ts ts':List Tok}(h:more n ts=.ok (x,ts')):size x=size n/\ts'.length<=ts.length:=by
 refine⟨?_,qvv n ts _ _ h⟩;unfold more at h;split at h;{obtain⟨v,ts1,_,h⟩:=qzs h;obtain⟨rfl,_⟩:=qzG h;exact qjJ _ _};{split at h;{obtain⟨v,ts1,_,h⟩:=qzs h;obtain⟨rfl,_⟩:=qzG h;exact qjJ _ _};{obtain⟨rfl,_⟩:=qzG h;rfl}}
theorem qjl {x:Tree}{ts ts':List Tok}(h:term ts=.ok (x,ts')):size x=1/\ts'.length+1<=ts.length:=by
 refine⟨?_,qqK ts _ _ h⟩;unfold term at h;split at h;{obtain⟨v,ts1,_,h⟩:=qzs h;obtain⟨rfl,_⟩:=qzG h;rw[qz2,qzz]};{split at h;{obtain⟨v,ts1,_,h⟩:=qzs h;obtain⟨rfl,_⟩:=qzG h;rw[qz2,qzz]};{obtain⟨v,ts1,e,h⟩:=qzs h;rw[(zkc h).1,(qzZ e).1]}}
theorem wv8 {x:Bs}{ts ts':List Tok}(h:cmp ts=.ok (x,ts')):ts'.length+1<=ts.length:=zk9 ts _ _ h
theorem zk2 {x:Tree}{ts ts':List Tok}(h:fact ts=.ok (x,ts')):size x+3*ts'.length<=3*ts.length:=by
 obtain⟨a,ts1,e1,h⟩:=qzs h;obtain⟨op,ts2,e2,h⟩:=qzs h;obtain⟨b,ts3,e3,h⟩:=qzs h;obtain⟨rfl,rfl⟩:=qzG h;have h1:=qjl e1;have h2:=wv8 e2;have h3:=qjl e3;rw[qz2,qz1,qz1,qzz];omega
theorem zxj {one:List Tok->PR Tree}(hone:∀ts x ts',one ts=.ok (x,ts')->size x+3*ts'.length<=3*ts.length)(n:Nat):∀(ts:List Tok),ts.length=n->∀xs ts',qq2 one ts=.ok (xs,ts')->qj4 xs+3*ts'.length<=3*ts.length:=by
 induction n using Nat.strongRecOn with|_ n ih=>{intro ts hn xs ts' h;rw[qq2]at h;split at h;{split at h;{cases h};{rename_i x ts1 e;have h1:=hone _ _ _ e;have h2:=qz4 ts;split at h;{obtain⟨ys,ts2,e2,h⟩:=qzs h;have:=ih ts1.length (by omega) ts1 rfl ys ts2 e2;obtain⟨rfl,rfl⟩:=qzG h;rw[qz1];omega};{cases h}}};{obtain⟨rfl,rfl⟩:=qzG h;rw[qzz];omega}}
theorem qvW {one:List Tok->PR Tree}(hone:∀ts x ts',one ts=.ok (x,ts')->size x+3*ts'.length<=3*ts.length){ts ts':List Tok}{xs:List Tree}(h:wqR one ts=.ok (xs,ts')):qj4 xs+3*ts'.length<=3*ts.length:=by
 obtain⟨x,ts1,e,h⟩:=qzs h;obtain⟨ys,ts2,e2,h⟩:=qzs h;obtain⟨rfl,rfl⟩:=qzG h;have h1:=hone _ _ _ e;have h2:=zxj hone _ ts1 rfl _ _ e2;rw[qz1];omega
theorem term_pay':∀ts x ts',term ts=.ok (x,ts')->size x+3*ts'.length<=3*ts.length:=fun ts x ts' h=>by have:=qjl h;omega
theorem zq9 {ts ts':List Tok}{xs:List Tree}(h:args ts=.ok (xs,ts')):qj4 xs+3*ts'.length+6<=3*ts.length:=by
 obtain⟨_,ts1,e1,h⟩:=qzs h;have h1:=qqk e1;split at h;{rename_i hr;have:=qqt hr;obtain⟨rfl,rfl⟩:=qzG h;rw[qzz];omega};{obtain⟨ys,ts2,e2,h⟩:=qzs h;obtain⟨_,ts3,e3,h⟩:=qzs h;obtain⟨rfl,rfl⟩:=qzG h;have h2:=qvW term_pay' e2;have h3:=qqk e3;omega}
theorem wzZ {x:Tree}{ts ts':List Tok}(h:sort ts=.ok (x,ts')):size x+3*ts'.length<=3*ts.length:=by
 unfold sort at h;split at h;{rename_i hr;have:=qqt hr;obtain⟨rfl,rfl⟩:=qzG h;rw[qz2,qzz];omega};{split at h;{rename_i hr;have:=qqt hr;obtain⟨rfl,rfl⟩:=qzG h;rw[qz2,qzz];omega};{split at h;{obtain⟨k,ts1,e,h⟩:=qzs h;obtain⟨rfl,rfl⟩:=qzG h;have h1:=qzZ e;have h2:=qz4 ts;rw[qz2,qz1,qzz];omega};{cases h}}}
theorem wze:∀ts x ts',field ts=.ok (x,ts')->size x+3*ts'.length<=3*ts.length:=fun ts x ts' h=>by
 obtain⟨n,ts1,e,h⟩:=qzs h;have h1:=qzZ e;split at h;{obtain⟨k,ts2,e2,h⟩:=qzs h;obtain⟨_,ts3,e3,h⟩:=qzs h;obtain⟨rfl,rfl⟩:=qzG h;have h2:=qzZ e2;have h3:=qqk e3;have h4:=qz4 ts1;rw[qzW,qz1,qzz];omega};{obtain⟨rfl,rfl⟩:=qzG h;rw[qjm];omega}
theorem zkd {x:Tree}{ts ts':List Tok}(h:mode ts=.ok (x,ts')):size x+3*ts'.length<=3*ts.length:=by
 unfold mode at h;split at h;{rename_i hr;have:=qqt hr;obtain⟨rfl,rfl⟩:=qzG h;rw[qz2,qzz];omega};{split at h;{obtain⟨k,ts1,e,h⟩:=qzs h;obtain⟨rfl,rfl⟩:=qzG h;have h1:=qzZ e;have h2:=qz4 ts;rw[qz2,qz1,qzz];omega};{obtain⟨_,ts1,e,h⟩:=qzs h;have h0:=qqk e;split at h;{obtain⟨k,ts2,e2,h⟩:=qzs h;obtain⟨rfl,rfl⟩:=qzG h;have h1:=qzZ e2;have h2:=qz4 ts1;rw[qz2,qz1,qzz];omega};{obtain⟨k,ts2,e2,h⟩:=qzs h;obtain⟨rfl,rfl⟩:=qzG h;have h1:=qzZ e2;rw[qz2,qz1,qzz];omega}}}
theorem zwu:∀ts x ts',zww ts=.ok (x,ts')->size x+3*ts'.length<=3*ts.length:=fun ts x ts' h=>by
 obtain⟨n,ts1,e,h⟩:=qzs h;obtain⟨_,ts2,e2,h⟩:=qzs h;obtain⟨m,ts3,e3,h⟩:=qzs h;obtain⟨rfl,rfl⟩:=qzG h;have h1:=qzZ e;have h2:=qqk e2;have h3:=zkd e3;rw[qzW,qz1,qzz];omega
theorem qxn {n x:Tree}{ts ts':List Tok}(h:qwC n ts=.ok (x,ts')):x=n/\ts'.length+1<=ts.length:=by
 obtain⟨_,ts1,e,h⟩:=qzs h;obtain⟨rfl,rfl⟩:=qzG h;exact⟨rfl,qqk e⟩
theorem zzq {k:Int}{x:Tree}{ts ts':List Tok}(h:zxh k ts=.ok (x,ts')):size x=1/\ts'.length+1<=ts.length:=by
 refine⟨?_,qk9 k ts _ _ h⟩;obtain⟨n,ts1,e,h⟩:=qzs h;obtain⟨_,ts2,_,h⟩:=qzs h;obtain⟨v,ts3,_,h⟩:=qzs h;obtain⟨_,ts4,_,h⟩:=qzs h;obtain⟨rfl,rfl⟩:=qzG h;rw[qjJ,qjm];exact(qzZ e).1
theorem wxl {x:Tree}{ts ts':List Tok}(h:ww3 ts=.ok (x,ts')):size x+3*ts'.length<=3*ts.length:=by
 unfold ww3 at h;split at h;{rename_i hr;have h0:=qqt hr;obtain⟨v,ts1,e,h⟩:=qzs h;obtain⟨rfl,rfl⟩:=qzG h;have:=zvd e;rw[qz2,qzz];omega};split at h;{rename_i hr;have h0:=qqt hr;obtain⟨v,ts1,e,h⟩:=qzs h;obtain⟨rfl,rfl⟩:=qzG h;have:=qzZ e;rw[qz2,qzz];omega};split at h;{rename_i hr;have h0:=qqt hr;split at h;{obtain⟨v,ts1,e,h⟩:=qzs h;obtain⟨rfl,rfl⟩:=qzG h;have:=qzZ e;have:=qz4 ts.tail;rw[qz2,qzz];omega};{obtain⟨v,ts1,e,h⟩:=qzs h;obtain⟨rfl,rfl⟩:=qzG h;have:=qzZ e;rw[qz2,qzz];omega}};split at h;exact term_pay' _ _ _ h;obtain⟨n,ts1,e,h⟩:=qzs h;have h1:=qzZ e;split at h;{obtain⟨xs,ts2,e2,h⟩:=qzs h;obtain⟨rfl,rfl⟩:=qzG h;have:=zq9 e2;rw[qzW];omega};split at h;{obtain⟨k,ts2,e2,h⟩:=qzs h;obtain⟨_,ts3,e3,h⟩:=qzs h;obtain⟨rfl,rfl⟩:=qzG h;have:=qjl e2;have:=qqk e3;have:=qz4 ts1;rw[qzW,qz1,qzz];omega};split at h;{rename_i hr;simp only[Bool.and_eq_true]at hr;have h0:=qqt hr.1;obtain⟨k,ts2,e2,h⟩:=qzs h;obtain⟨rfl,rfl⟩:=qzG h;have:=qzZ e2;rw[qz2,qz1,qz1,qzz];omega};split at h;{rename_i hr;simp only[Bool.and_eq_true]at hr;have h0:=qqt hr.1;obtain⟨k,ts2,e2,h⟩:=qzs h;obtain⟨rfl,rfl⟩:=qzG h;have:=qzZ e2;rw[qz2,qz1,qz1,qzz];omega};{have:=zkc h;omega}
theorem zw9 {n x:Tree}(hn:size n=1){ts ts':List Tok}(h:zvg n ts=.ok (x,ts')):size x+3*ts'.length<=3*ts.length+1:=by
 unfold zvg at h;split at h;{obtain⟨xs,ts2,e2,h⟩:=qzs h;obtain⟨rfl,rfl⟩:=qzG h;have:=zq9 e2;rw[qz2,qz1,qzz,qzW];omega};split at h;{obtain⟨a,ts1,e1,h⟩:=qzs h;obtain⟨_,ts2,e2,h⟩:=qzs h;obtain⟨_,ts3,e3,h⟩:=qzs h;obtain⟨b,ts4,e4,h⟩:=qzs h;obtain⟨rfl,rfl⟩:=qzG h;have:=qjl e1;have:=qqk e2;have:=qqk e3;have:=qjl e4;have:=qz4 ts;rw[qzW,qz1,qz1,qzz];omega};{obtain⟨_,ts1,e1,h⟩:=qzs h;obtain⟨b,ts2,e2,h⟩:=qzs h;obtain⟨rfl,rfl⟩:=qzG h;have:=qqk e1;have:=wxl e2;rw[qzW,qz1,qzz];omega}
def wju (f:List Tok->PR Tree):Prop:=∀ts x ts',f ts=.ok (x,ts')->size x+3*ts'.length<=3*ts.length
theorem zz6 {block:List Tok->PR Tree}(hb:wju block){k at_:Int}{x:Tree}{ts ts':List Tok}(h:zz7 block k at_ ts=.ok (x,ts')):size x+3*ts'.length<=3*ts.length:=by
 obtain⟨n,ts1,e1,h⟩:=qzs h;obtain⟨b,ts2,e2,h⟩:=qzs h;obtain⟨rfl,rfl⟩:=qzG h;have h1:=zk2 e1;have h2:=hb _ _ _ e2;rw[qz2,qjH,qz1,qzz];rw[qxX]at h1;omega
theorem wzW {block:List Tok->PR Tree}(hb:wju block):wju (wwb block):=fun ts x ts' h=>by
 unfold wwb at h;split at h;{rename_i hr;have h0:=qqt hr;obtain⟨n,ts1,e,h⟩:=qzs h;obtain⟨rfl,h2⟩:=qxn h;have:=qzZ e;rw[qjI,qjm];omega};split at h;{rename_i hr;have h0:=qqt hr;obtain⟨n,ts1,e,h⟩:=qzs h;obtain⟨rfl,h2⟩:=qxn h;have:=zzq e;rw[qjI];omega};split at h;{rename_i hr;have h0:=qqt hr;obtain⟨n,ts1,e,h⟩:=qzs h;obtain⟨rfl,h2⟩:=qxn h;have:=zzq e;rw[qjI];omega};split at h;{rename_i hr;have h0:=qqt hr;obtain⟨n,ts1,e,h⟩:=qzs h;have h1:=zz6 hb e;rw[qxX]at h1;split at h;{obtain⟨b,ts2,e2,h⟩:=qzs h;obtain⟨rfl,rfl⟩:=qzG h;have h2:=hb _ _ _ e2;have:=qz4 ts1;rw[qzW,qjH,qz1,qzz];omega};{obtain⟨rfl,rfl⟩:=qzG h;rw[qzW,qjH,qz1,qzz,qz2,qzz];omega}};split at h;{have h1:=zz6 hb h;have:=qz4 ts;omega};split at h;{rename_i hr;have h0:=qqt hr;split at h;{obtain⟨rfl,h2⟩:=qxn h;rw[qz2,qzz];omega};{obtain⟨y,ts1,e,h⟩:=qzs h;obtain⟨rfl,h2⟩:=qxn h;have:=qjl e;rw[qz2,qz1,qzz];omega}};split at h;{rename_i hr;have h0:=qqt hr;obtain⟨rfl,h2⟩:=qxn h;rw[qz2,qzz];omega};split at h;{rename_i hr;have h0:=qqt hr;obtain⟨n,ts1,e,h⟩:=qzs h;obtain⟨xs,ts2,e2,h⟩:=qzs h;obtain⟨rfl,h2⟩:=qxn h;have:=qzZ e;have:=zq9 e2;rw[qz2];omega};{obtain⟨n,ts1,e,h⟩:=qzs h;obtain⟨m,ts2,e2,h⟩:=qzs h;obtain⟨rfl,h2⟩:=qxn h;have h3:=qzZ e;have:=zw9 h3.1 e2;omega}
theorem zvD {one:List Tok->PR Tree}(hone:wju one)(n:Nat):∀(ts:List Tok),ts.length=n->∀xs ts',zqO one ts=.ok (xs,ts')->qj4 xs+3*ts'.length<=3*ts.length:=by
 induction n using Nat.strongRecOn with|_ n ih=>{intro ts hn xs ts' h;rw[zqO]at h;split at h;{obtain⟨rfl,rfl⟩:=qzG h;have:=qz4 ts;rw[qzz];omega};{split at h;{cases h};{rename_i x ts1 e;have h1:=hone _ _ _ e;split at h;{obtain⟨ys,ts2,e2,h⟩:=qzs h;have:=ih ts1.length (by omega) ts1 rfl ys ts2 e2;obtain⟨rfl,rfl⟩:=qzG h;rw[qz1];omega};{cases h}}}}
theorem zx9:∀n,wju (block n)
 |0=>fun ts x ts' h=>by
  rw[block]at h;split at h<;>cases h
 |n+1=>fun ts x ts' h=>by
  rw[block]at h;obtain⟨_,ts1,e1,h⟩:=qzs h;obtain⟨xs,ts2,e2,h⟩:=qzs h;obtain⟨rfl,rfl⟩:=qzG h;have:=qqk e1;have:=zvD (wzW (zx9 n)) _ ts1 rfl _ _ e2;rw[qz2];omega
theorem qvC {n x:Tree}{ts ts':List Tok}(h:qqI n ts=.ok (x,ts')):size x+3*ts'.length<=3*ts.length+size n:=by
 unfold qqI at h;split at h;{obtain⟨fs,ts1,e1,h⟩:=qzs h;obtain⟨_,ts2,e2,h⟩:=qzs h;obtain⟨rfl,rfl⟩:=qzG h;have:=qvW (fun _ _ _ h=>zk2 h) e1;have:=qqk e2;have:=qz4 ts;rw[qzW,qjH,qxX n];omega};{obtain⟨_,ts2,e2,h⟩:=qzs h;obtain⟨rfl,rfl⟩:=qzG h;have:=qqk e2;omega}
theorem wj2 (at_:Int):wju (typ at_):=fun ts x ts' h=>by
 obtain⟨n,ts1,e1,h⟩:=qzs h;obtain⟨s,ts2,e2,h⟩:=qzs h;have h1:=qzZ e1;have h2:=wzZ e2;split at h;{obtain⟨fs,ts3,e3,h⟩:=qzs h;obtain⟨_,ts4,e4,h⟩:=qzs h;have h3:=qvW wze e3;have h4:=qqk e4;have h5:=qvC h;have:=qz4 ts2;rw[qz2,qz1]at h5;omega};{have h5:=qvC h;rw[qz2,qz1,qzz]at h5;omega}
theorem zxx {xs:List Tree}{ts ts':List Tok}(h:qwa ts=.ok (xs,ts')):qj4 xs+3*ts'.length+6<=3*ts.length:=by
 obtain⟨_,ts1,e1,h⟩:=qzs h;have h1:=qqk e1;split at h;{rename_i hr;have:=qqt hr;obtain⟨rfl,rfl⟩:=qzG h;rw[qzz];omega};{obtain⟨ps,ts2,e2,h⟩:=qzs h;obtain⟨_,ts3,e3,h⟩:=qzs h;obtain⟨rfl,rfl⟩:=qzG h;have h2:=qvW zwu e2;have h3:=qqk e3;omega}
theorem wzc {x:Tree}{ts ts':List Tok}(h:zvj ts=.ok (x,ts')):size x+3*ts'.length<=3*ts.length+1:=by
 unfold zvj at h;split at h;{split at h;{cases h};{have:=zkd h;have:=qz4 ts;omega}};{obtain⟨rfl,rfl⟩:=qzG h;rw[qz2,qzz];omega}
theorem yxr (at_:Int):wju (fn at_):=fun ts x ts' h=>by
 obtain⟨n,ts1,e1,h⟩:=qzs h;obtain⟨ps,ts2,e2,h⟩:=qzs h;obtain⟨r,ts3,e3,h⟩:=qzs h;obtain⟨b,ts4,e4,h⟩:=qzs h;obtain⟨rfl,rfl⟩:=qzG h;have h1:=qzZ e1;have h2:=zxx e2;have h3:=wzc e3;have h4:=zx9 8 _ _ _ e4;rw[qz2,qjH,qz1,qz1,qzz];omega
theorem yv0:wju zko:=fun ts x ts' h=>by
 unfold zko at h;split at h;{have h1:=yxr _ _ _ _ h;have:=qz4 ts;omega};{obtain⟨_,ts1,e1,h⟩:=qzs h;have h1:=qqk e1;have h2:=wj2 _ _ _ _ h;omega}
end Lg
namespace Lx
open Go
open Lg (Tok Tree)
open Go.Proofs (Tryz.prog)
open Go.Proofs.Tryz
def jxx (A B:qzP):qzP:=fun ys bx Kr Kp=>A ys bx Kr Kp\/B ys bx Kr Kp
theorem OK.orX {P:Program}{f:FuncId}{A B:qzP}(h1:OK P f A)(h2:OK P f B):OK P f (jxx A B) where
 enters:=h1.enters
 calls:=fun ys bx Kr Kp h=>h.elim (h1.calls ys bx Kr Kp) (h2.calls ys bx Kr Kp)
abbrev yzZ:qzP:=jxx (ykx 73 (· != 10)) (jxx (ykx 74 Lg.qkC) (ykx 78 Lg.qqr))
theorem wjR:OK Tryz.prog 72 yzZ:=(zvU 73 _ wkP).orX ((zvU 74 _ zqy).orX (zvU 78 _ zvz))
def qwh (d:Nat)(xs:List Tok):LV:=match xs with
 |[]=>.d (.imm (.slice none 0 0))
 |x::l=>.os d 4 (x::l).length
def zkO (d:Nat)(xs:List Tok):Ar:=match xs with
 |[]=>nix
 |x::l=>put d (4,152,(x::l).map qqa) nix
@[go_sem]theorem yzy (d:Nat):qwh d []=.d (.imm (.slice none 0 0)):=(rfl)
@[go_sem]theorem wvX (d:Nat)(x:Tok)(l:List Tok):qwh d (x::l)=.os d 4 (l.length+1):=(rfl)
@[go_sem]theorem yzz (d:Nat):zkO d []=nix:=(rfl)
@[go_sem]theorem wvY (d:Nat)(x:Tok)(l:List Tok):zkO d (x::l)=put d (4,152,(x::l).map qqa) nix:=(rfl)
theorem qxz (d:Nat)(x:Tok)(l:List Tok):qwh d (l++[x])=.os d 4 (l.length+1):=by
 cases l with|nil=>{rfl}|cons y l=>{simp[qwh]}
theorem qxW {d:Nat}{x:Tok}{l:List Tok}{f:Ar}(h:f d=some (4,152,l.map qqa++[qqa x])):qqW f (zkO d (l++[x])):=by
 have e:zkO d (l++[x])=put d (4,152,l.map qqa++[qqa x]) nix:=by{cases l with|nil=>{rfl}|cons y l=>{simp[zkO]}};rw[e];exact qzd h qza
def yqN (r:Except (Int×Int) (List Tok))(f:List Tok->Prop)(g:Int->Int->Prop):Prop:=match r with
 |.ok xs=>f xs
 |.error (a,c)=>g a c
theorem zwM {l:Bs}{i:Nat}(h:i<l.length)(hb:(l[i]==32||l[i]==10)=true):Lg.lex i (l.drop i)=Lg.lex ((i+1:Nat):Int) (l.drop (i+1)):=by
 rw[List.drop_eq_getElem_cons h,Lg.lex,if_pos hb];rfl
theorem qvR {α:Type}(p:α->Bool):∀l:List α,(l.takeWhile p).length<=l.length/\l.take (l.takeWhile p).length=l.takeWhile p/\l.drop (l.takeWhile p).length=l.dropWhile p
 |[]=>by simp
 |x::l=>by
  obtain⟨h1,h2,h3⟩:=qvR p l;by_cases h:p x=true;{rw[List.takeWhile_cons_of_pos h,List.dropWhile_cons_of_pos h];simp only[lB,List.take_succ_cons,List.drop_succ_cons,h2,h3];exact⟨by omega,trivial,trivial⟩};{rw[List.takeWhile_cons_of_neg h,List.dropWhile_cons_of_neg h];simp}
theorem zqx {α:Type}(p:α->Bool)(l:List α):l.drop (l.takeWhile p).length=l.dropWhile p:=(qvR p l).2.2
theorem zx4 (p:UInt8->Bool)(l:Bs)(i:Nat):l.drop (qzY p l i)=(l.drop i).dropWhile p:=by
 unfold qzY;rw[<-List.drop_drop,zqx]
theorem qjq {p:UInt8->Bool}{l:Bs}{i:Nat}(h:i<=l.length):qzY p l i<=l.length:=by
 have h1:=(qvR p (l.drop i)).1;unfold qzY;simp at h1;omega
theorem qq5 (p:UInt8->Bool)(l:Bs)(i:Nat):(l.take (qzY p l i)).drop i=(l.drop i).takeWhile p:=by
 unfold qzY;rw[List.drop_take,Nat.add_sub_cancel_left];exact(qvR p (l.drop i)).2.1
theorem zjj {l:Bs}{i:Nat}(h:i<l.length)(hb:(l[i]==32||l[i]==10)=false)(h2:(l[i]==35)=true):
  Lg.lex i (l.drop i)=Lg.lex ((qzY (· != 10) l i:Nat):Int) (l.drop (qzY (· != 10) l i)):=by
 have h3:l[i]=35:=eq_of_beq h2;rw[zx4,qk6 h (by rw[h3];rfl),List.drop_eq_getElem_cons h,Lg.lex,if_neg (by rw[hb];decide),if_pos h2,List.dropWhile_cons,if_pos (by rw[h3];rfl)];unfold qzY;push_cast;rfl
theorem zwL {l:Bs}{i:Nat}(h:i<l.length)(hb:(l[i]==32||l[i]==10)=false)(h2:(l[i]==35)=false):
  Lg.lex i (l.drop i)=match Lg.wjA i (l.drop i)with
   |.error e=>.error (i,e)
   |.ok t=>match Lg.lex (i+t.text.length) ((l.drop (i+1)).drop (t.text.length-1))with
     |.error e=>.error e
     |.ok ts=>.ok (t::ts):=by
 (conv=>lhs;rw[List.drop_eq_getElem_cons h,Lg.lex,if_neg (by rw[hb];decide),if_neg (by rw[h2];decide),<-List.drop_eq_getElem_cons h]);rfl
theorem wkQ (l:Bs):Lg.lex l.length (l.drop l.length)=.ok [⟨0,[],0,l.length⟩]:=by
 rw[List.drop_length,Lg.lex]
theorem zvn (c:UInt8):((c.toNat:Int)==32)=(c==32)/\((c.toNat:Int)==10)=(c==10)/\((c.toNat:Int)==35)=(c==35):=by
 refine⟨?_,?_,?_⟩;all_goals rw[Bool.eq_iff_iff];simp only[beq_iff_eq];refine⟨fun h=>UInt8.toNat_inj.1 (Int.ofNat_inj.1 h),fun h=>by rw[h];rfl⟩
theorem zkN {p:Int}{l:Bs}{t:Tok}(h:Lg.wjA p l=.ok t):t.kind≠0:=by
 unfold Lg.wjA at h;split at h;{cases h};{split at h;{split at h;{cases h};{cases h;exact(by decide:(3:Int)≠0)}};{split at h;{split at h;{cases h};{cases h;show(if _ then(2:Int)else 1)≠0;split<;>decide}};{split at h;{cases h};{cases h;exact(by decide:(4:Int)≠0)}}}}
theorem qx1 {p:UInt8->Bool}{l:Bs}{i:Nat}(h:i<l.length)(hp:p l[i]=true):i<qzY p l i:=by
 rw[qk6 h hp];unfold qzY;omega
theorem zqA (p:UInt8->Bool):∀l:Bs,(l.takeWhile p).all p=true
 |[]=>rfl
 |x::l=>by
  rw[List.takeWhile_cons];split;{rename_i h;rw[List.all_cons,h,zqA p l];rfl};rfl
theorem qjp (p:UInt8->Bool)(l:Bs)(i:Nat):qzY p l i-i=((l.drop i).takeWhile p).length:=by unfold qzY;omega
theorem jjB {l:Bs}{i:Nat}(h:i<l.length):(l[i]?==some 48)=(l[i]==48):=by
 rw[lD h,Bool.eq_iff_iff];simp
theorem qjF {l:Bs}{i:Nat}(h:i<l.length)(hd:Lg.qkC l[i]=true):Lg.wjA i (l.drop i)=
  if(decide (1099511627776<Lg.dec ((l.take (qzY Lg.qkC l i)).drop i))||(decide (1<qzY Lg.qkC l i-i)&&l[i]?==some 48)||Lg.zqk (l.drop (qzY Lg.qkC l i)))=true then .error 12
  else .ok ⟨3,(l.take (qzY Lg.qkC l i)).drop i,Lg.dec ((l.take (qzY Lg.qkC l i)).drop i),i⟩:=by
 rw[qq5,zx4,qjp,jjB h];unfold Lg.wjA;rw[List.drop_eq_getElem_cons h];simp only[hd,if_true]
theorem qwd {c:UInt8}(h:Lg.qvb c=true):Lg.qqr c=true:=by unfold Lg.qqr;rw[h];rfl
theorem qxV {l:Bs}{i:Nat}(h:i<l.length)(hd:Lg.qkC l[i]=false)(hw:Lg.qvb l[i]=true):Lg.wjA i (l.drop i)=
  if 16<qzY Lg.qqr l i-i then .error 13
  else .ok ⟨if Lg.wxa ((l.take (qzY Lg.qqr l i)).drop i)then 2 else 1,(l.take (qzY Lg.qqr l i)).drop i,0,i⟩:=by
 rw[qq5,qjp];unfold Lg.wjA;rw[List.drop_eq_getElem_cons h];simp only[hd,hw,if_true,Bool.false_eq_true,if_false]
theorem qkh {l:Bs}{i:Nat}(h:i<l.length)(hd:Lg.qkC l[i]=false)(hw:Lg.qvb l[i]=false):Lg.wjA i (l.drop i)=
  if Lg.yks (l.drop i)=[]then .error 11 else .ok ⟨4,Lg.yks (l.drop i),0,i⟩:=by
 unfold Lg.wjA;rw[List.drop_eq_getElem_cons h];simp only[hd,hw,Bool.false_eq_true,if_false]
theorem qvT (l:Bs):(Lg.yks l).length<=l.length:=by
 have hp:∀p:Bs,p.isPrefixOf l=true->p.length<=l.length:=fun p h=>(List.isPrefixOf_iff_prefix.1 h).length_le;unfold Lg.yks;split;{rename_i h;exact hp _ h};{split;{rename_i h;exact hp _ h};{split;{rename_i h;exact hp _ h};{cases l with|nil=>{simp}|cons b r=>{simp only;split<;>simp}}}}
theorem zqJ {p:Int}{l:Bs}{t:Tok}(h:Lg.wjA p l=.ok t): -9223372036854775807<=t.num/\t.num<=9223372036854775807:=by
 unfold Lg.wjA at h;split at h;{cases h};{split at h;{split at h;{cases h};{rename_i h1;cases h;simp only[Bool.or_eq_true,decide_eq_true_eq,not_or]at h1;obtain⟨⟨h1,_⟩,_⟩:=h1;show -9223372036854775807<=((Lg.dec _:Nat):Int)/\((Lg.dec _:Nat):Int)<=9223372036854775807;omega}};{split at h;{split at h;{cases h};{cases h;exact⟨(by decide:(-9223372036854775807:Int)<=0),(by decide:(0:Int)<=9223372036854775807)⟩}};{split at h;{cases h};{cases h;exact⟨(by decide:(-9223372036854775807:Int)<=0),(by decide:(0:Int)<=9223372036854775807)⟩}}}}
theorem wzi {t:Tok}{ts:List Tok}(h1:t.kind≠0)(h2: -9223372036854775807<=t.num/\t.num<=9223372036854775807)(h:yjH ts):yjH (t::ts):=by
 cases ts with|nil=>{exact h.elim}|cons u us=>{exact⟨h1,h2.1,h2.2,h⟩}
theorem qvX:∀(n:Nat) (p:Int) (l:Bs),l.length<=n->∀ts,Lg.lex p l=.ok ts->yjH ts/\ts.length<=l.length+1
 |n,p,[],_,ts,h=>by
  rw[Lg.lex]at h;cases h;exact⟨rfl,by simp⟩
 |0,p,b::r,hn,ts,h=>by simp at hn
 |n+1,p,b::r,hn,ts,h=>by
  simp only[lB]at hn;rw[Lg.lex]at h;split at h;{obtain⟨h1,h2⟩:=qvX n _ r (by omega) ts h;exact⟨h1,by simp only[lB];omega⟩};{split at h;{have:=Lg.qjZ (· != 10) r;obtain⟨h1,h2⟩:=qvX n _ _ (by omega) ts h;exact⟨h1,by simp only[lB];omega⟩};{split at h;{cases h};{rename_i t ht;split at h;{cases h};{rename_i ts' hts;cases h;obtain⟨h1,h2⟩:=qvX n _ _ (by rw[List.length_drop];omega) ts' hts;rw[List.length_drop]at h2;exact⟨wzi (zkN ht) (zqJ ht) h1,by simp only[lB];omega⟩}}}}
theorem zqd {l:Bs}{ts:List Tok}(hl:l.length<=16384)(h:Lg.lex 0 l=.ok ts):qjk ts:=by
 obtain⟨h1,h2⟩:=qvX _ _ l (Nat.le_refl _) ts h;exact⟨h1,by omega⟩
def zxD (l:Bs)(Kr:LV->Bx->Ar1->Prop)(acc:List Tok)(i:Nat):Prop:=
 yqN (Lg.lex i (l.drop i)) (fun xs=>Kr (.tup [.d (.sl 4 ((acc++xs).map qqa) false),iD 0,iD 0]) nix none) (fun a c=>c≠0->Kr (.tup [.d (.sl 4 [] false),iD a,iD c]) nix none)
section
variable {l:Bs}{Kr:LV->Bx->Ar1->Prop}{acc:List Tok}{i:Nat}
theorem zxD.blank (h:zxD l Kr acc i)(hi:i<l.length)(hb:(l[i]==32||l[i]==10)=true):zxD l Kr acc (i+1):=by
 unfold zxD at h;rw[zwM hi hb]at h;exact h
theorem zxD.comment (h:zxD l Kr acc i)(hi:i<l.length)(hb:(l[i]==32||l[i]==10)=false)(h2:(l[i]==35)=true):zxD l Kr acc (qzY (· != 10) l i):=by
 unfold zxD at h;rw[zjj hi hb h2]at h;exact h
theorem zxD.fin (h:zxD l Kr acc l.length):Kr (.tup [.d (.sl 4 (acc.map qqa++[qqa ⟨0,[],0,l.length⟩]) false),iD 0,iD 0]) nix none:=by
 unfold zxD at h;rw[wkQ]at h;simp only[yqN,List.map_append]at h;exact h
theorem zxD.bad (h:zxD l Kr acc i)(hi:i<l.length)(hb:(l[i]==32||l[i]==10)=false)(h2:(l[i]==35)=false){c:Int}(ht:Lg.wjA i (l.drop i)=.error c)(hc:c≠0):
  Kr (.tup [.d (.sl 4 [] false),iD i,iD c]) nix none:=by
 unfold zxD at h;rw[zwL hi hb h2,ht]at h;exact h hc
theorem zxD.more (h:zxD l Kr acc i)(hi:i<l.length)(hb:(l[i]==32||l[i]==10)=false)(h2:(l[i]==35)=false){t:Tok}(ht:Lg.wjA i (l.drop i)=.ok t)(hl:1<=t.text.length):
  zxD l Kr (acc++[t]) (i+t.text.length):=by
 unfold zxD at h⊢;rw[zwL hi hb h2,ht]at h;simp only at h;rw[List.drop_drop,show i+1+(t.text.length-1)=i+t.text.length by omega]at h;cases hx:Lg.lex (i+t.text.length:Int) (l.drop (i+t.text.length))with|error p=>{obtain⟨a,c⟩:=p;rw[hx]at h;rw[show((i+t.text.length:Nat):Int)=(i:Int)+t.text.length from rfl,hx];exact h}|ok xs=>{rw[hx]at h;rw[show((i+t.text.length:Nat):Int)=(i:Int)+t.text.length from rfl,hx];simp only[yqN,List.append_assoc,List.singleton_append]at h⊢;exact h}
end
theorem wj9 (hpi:OK Tryz.prog 120 wq2)(hidx:OK Tryz.prog 123 yv3):OK Tryz.prog 40 zv5:=by
 refine fn_OK' qzu (E:=EV) (sp:=spL [(72,yzZ),(74,(qkH Lg.qkC)),(75,zw5),(76,(qkH Lg.qvb)),(77,yzn),(79,yzK)]) qzt qzl (OKs.ok ⟨wjR,⟨zqy,⟨(zjc hpi),⟨qwy,⟨wjy,⟨(wjH hidx),trivial⟩⟩⟩⟩⟩⟩) func40 rfl ntmps40 results40 call40 [] none ?_;rintro ys bx Kr Kp ⟨l,rfl,hK0⟩;refine⟨[],rfl,trivial,by simp,?_⟩;unfold Lg.jqv at hK0;simp only[go_sem];refine⟨fun h=>?_,fun h=>?_⟩;{rw[if_pos (by have:=lF h;omega)]at hK0;exact⟨_,.cons (.nil 4 false) (.cons (.rfl _) (.cons (.rfl _) .nil)),hK0 (by decide)⟩};{have hl:l.length<=16384:=by{have:=lG h;omega};rw[if_neg (by omega)]at hK0;refine qzj (T:={t:List Tok×Nat //t.1.length<=t.2/\t.2<=l.length/\zxD l Kr t.1 t.2}) (fun t=>⟨87,put 0 (.d (.st l)) (put 5 (qwh 75 t.1.1) (put 6 (iD t.1.2) nix)),nix,zkO 75 t.1.1⟩) (fun t=>l.length-t.1.2) ⟨([],0),by simp,by omega,?_⟩ ⟨rfl,sP3 qza,qza,qza⟩ ?_;{show yqN (Lg.lex 0 l) _ _;cases hx:Lg.lex 0 l with|error p=>{obtain⟨a,c⟩:=p;rw[hx]at hK0;refine fun hc=>hK0 hc}|ok xs=>{rw[hx]at hK0;exact hK0 (zqd hl hx)}};rintro⟨⟨acc,i⟩,g1,g2,gK⟩;have h1:acc.length<=i:=g1;have h2:i<=l.length:=g2;have hK:zxD l Kr acc i:=gK;cases acc with|nil=>{simp only[go_sem];refine⟨fun h=>?_,fun h=>?_⟩;{have hi:i<l.length:=by{have:=lF h;omega};refine⟨by omega,by omega,qvd (lD (by simpa using hi)) ?_⟩;obtain⟨e1,e2,e3⟩:=zvn l[i];simp only[lA,e1,e2,e3,go_sem];refine⟨fun hb1=>⟨⟨by omega,by omega⟩,⟨(([]:List Tok),i+1),by simp only[lH,lB];omega,hi,hK.blank hi (by simp[hb1])⟩,⟨rfl,sP3 qza,qza,qza⟩,by show l.length-(i+1)<l.length-i;omega⟩,fun hb1=>⟨fun hb2=>⟨⟨by omega,by omega⟩,⟨(([]:List Tok),i+1),by simp only[lH,lB];omega,hi,hK.blank hi (by simp[hb2])⟩,⟨rfl,sP3 qza,qza,qza⟩,by show l.length-(i+1)<l.length-i;omega⟩,fun hb2=>?_⟩⟩;have hb:(l[i]==32||l[i]==10)=false:=by{rw[hb1,hb2];rfl};refine⟨fun h35=>?_,fun h35=>?_⟩;{refine Or.inl ⟨l,i,rfl,h2,by omega,?_⟩;simp only[lA,go_sem];refine⟨⟨(([]:List Tok),qzY (· != 10) l i),?_,qjq h2,hK.comment hi hb h35⟩,⟨rfl,sP3 qza,qza,qza⟩,?_⟩;{have:=qx1 (p:=(· != 10)) hi (by rw[eq_of_beq h35];rfl);simp only[lH,lB]at h1⊢;omega};{have:=qx1 (p:=(· != 10)) hi (by rw[eq_of_beq h35];rfl);show l.length-qzY (· != 10) l i<l.length-i;omega}};{refine ⟨l[i],rfl,?_⟩;simp only[lA,go_sem];refine⟨fun hd=>?_,fun hd=>?_⟩;{refine Or.inr (Or.inl ⟨l,i,rfl,h2,by omega,?_⟩);simp only[lA,go_sem];have hj:=qx1 hi hd;have ht:=qjF hi hd;refine⟨l,i,qzY Lg.qkC l i,rfl,hj,qjq h2,by omega,by rw[qq5];exact zqA _ _,fun hc=>?_,fun hc=>?_⟩;{rw[if_pos hc]at ht;simp only[lA,go_sem];exact⟨_,.cons (.nil 4 false) (.cons (.rfl _) (.cons (.rfl _) .nil)),hK.bad hi hb h35 ht (by decide)⟩};{rw[if_neg (by rw[hc];decide)]at ht;have hlen:((l.take (qzY Lg.qkC l i)).drop i).length=qzY Lg.qkC l i-i:=by{rw[qq5,qjp]};have hj2:=qjq (p:=Lg.qkC) h2;have hK1:=hK.more hi hb h35 ht (by show 1<=((l.take (qzY Lg.qkC l i)).drop i).length;omega);simp only[lA,go_sem];refine⟨by omega,⟨(([]:List Tok)++[(⟨3,(l.take (qzY Lg.qkC l i)).drop i,Lg.dec ((l.take (qzY Lg.qkC l i)).drop i),i⟩:Tok)],_),?_,?_,hK1⟩,⟨rfl,sP1 (qzd ?_ (sP1 qza)),qza,qxW (l:=([]:List Tok)) rfl⟩,?_⟩;{show(([]:List Tok)++[(⟨3,(l.take (qzY Lg.qkC l i)).drop i,Lg.dec ((l.take (qzY Lg.qkC l i)).drop i),i⟩:Tok)]).length<=i+((l.take (qzY Lg.qkC l i)).drop i).length;simp only[lC,lH,lB]at h1⊢;omega};{show i+((l.take (qzY Lg.qkC l i)).drop i).length<=l.length;omega};{show _=some (qwh 75 (([]:List Tok)++[_]));rw[qxz];rfl};{show l.length-(i+((l.take (qzY Lg.qkC l i)).drop i).length)<l.length-i;omega}}};{refine⟨l[i],rfl,?_⟩;simp only[lA,go_sem];refine⟨fun hw=>?_,fun hw=>?_⟩;{refine Or.inr (Or.inr ⟨l,i,rfl,h2,by omega,?_⟩);simp only[lA,go_sem];have hj:=qx1 hi (qwd hw);have hj2:=qjq (p:=Lg.qqr) h2;have ht:=qxV hi hd hw;refine⟨l,i,qzY Lg.qqr l i,rfl,by omega,hj2,by omega,fun hc=>?_,fun hc=>?_⟩;{rw[if_pos hc]at ht;simp only[lA,go_sem];exact⟨_,.cons (.nil 4 false) (.cons (.rfl _) (.cons (.rfl _) .nil)),hK.bad hi hb h35 ht (by decide)⟩};{rw[if_neg (by omega)]at ht;have hlen:((l.take (qzY Lg.qqr l i)).drop i).length=qzY Lg.qqr l i-i:=by{rw[qq5,qjp]};have hK1:=hK.more hi hb h35 ht (by show 1<=((l.take (qzY Lg.qqr l i)).drop i).length;omega);simp only[lA,go_sem];refine⟨by omega,⟨(([]:List Tok)++[(⟨if Lg.wxa ((l.take (qzY Lg.qqr l i)).drop i)then 2 else 1,(l.take (qzY Lg.qqr l i)).drop i,0,i⟩:Tok)],_),?_,?_,hK1⟩,⟨rfl,sP1 (qzd ?_ (sP1 qza)),qza,qxW (l:=([]:List Tok)) rfl⟩,?_⟩;{show(([]:List Tok)++[(⟨if Lg.wxa ((l.take (qzY Lg.qqr l i)).drop i)then 2 else 1,(l.take (qzY Lg.qqr l i)).drop i,0,i⟩:Tok)]).length<=i+((l.take (qzY Lg.qqr l i)).drop i).length;simp only[lC,lH,lB]at h1⊢;omega};{show i+((l.take (qzY Lg.qqr l i)).drop i).length<=l.length;omega};{show _=some (qwh 75 (([]:List Tok)++[_]));rw[qxz];rfl};{show l.length-(i+((l.take (qzY Lg.qqr l i)).drop i).length)<l.length-i;omega}}};{have ht:=qkh hi hd hw;refine⟨by omega,by omega,l.drop i,rfl,?_,?_⟩;{rw[List.drop_eq_getElem_cons hi];exact List.cons_ne_nil _ _};simp only[lA,go_sem];refine⟨fun hc=>?_,fun hc=>?_⟩;{rw[if_pos (eq_of_beq hc)]at ht;exact⟨_,.cons (.nil 4 false) (.cons (.rfl _) (.cons (.rfl _) .nil)),hK.bad hi hb h35 ht (by decide)⟩};{have hne:Lg.yks (l.drop i)≠[]:=ne_of_beq_false hc;rw[if_neg hne]at ht;have hl1:1<=(Lg.yks (l.drop i)).length:=by{cases e:Lg.yks (l.drop i)with|nil=>{exact absurd e hne}|cons _ _=>{simp}};have hl2:i+(Lg.yks (l.drop i)).length<=l.length:=by{have:=qvT (l.drop i);rw[List.length_drop]at this;omega};have hK1:=hK.more hi hb h35 ht hl1;refine⟨by omega,⟨(([]:List Tok)++[(⟨4,Lg.yks (l.drop i),0,i⟩:Tok)],_),?_,?_,hK1⟩,⟨rfl,sP1 (qzd ?_ (sP1 qza)),qza,qxW (l:=([]:List Tok)) rfl⟩,?_⟩;{show(([]:List Tok)++[(⟨4,Lg.yks (l.drop i),0,i⟩:Tok)]).length<=i+(Lg.yks (l.drop i)).length;simp only[lC,lH,lB]at h1⊢;omega};{show i+(Lg.yks (l.drop i)).length<=l.length;omega};{show _=some (qwh 75 (([]:List Tok)++[_]));rw[qxz];rfl};{show l.length-(i+(Lg.yks (l.drop i)).length)<l.length-i;omega}}}}}};{have hi:i=l.length:=by{have:=lG h;omega};subst hi;exact⟨_,.cons (.rfl _) (.cons (.rfl _) (.cons (.rfl _) .nil)),hK.fin⟩}}|cons y acc=>{have h3:acc.length+1<=i:=h1;simp only[go_sem];refine⟨fun h=>?_,fun h=>?_⟩;{have hi:i<l.length:=by{have:=lF h;omega};refine⟨by omega,by omega,qvd (lD (by simpa using hi)) ?_⟩;obtain⟨e1,e2,e3⟩:=zvn l[i];simp only[lA,e1,e2,e3,go_sem];refine⟨fun hb1=>⟨⟨by omega,by omega⟩,⟨((y::acc),i+1),by show acc.length+1<=i+1;omega,hi,hK.blank hi (by simp[hb1])⟩,⟨rfl,sP3 qza,qza,sP1 qza⟩,by show l.length-(i+1)<l.length-i;omega⟩,fun hb1=>⟨fun hb2=>⟨⟨by omega,by omega⟩,⟨((y::acc),i+1),by show acc.length+1<=i+1;omega,hi,hK.blank hi (by simp[hb2])⟩,⟨rfl,sP3 qza,qza,sP1 qza⟩,by show l.length-(i+1)<l.length-i;omega⟩,fun hb2=>?_⟩⟩;have hb:(l[i]==32||l[i]==10)=false:=by{rw[hb1,hb2];rfl};refine⟨fun h35=>?_,fun h35=>?_⟩;{refine Or.inl ⟨l,i,rfl,h2,by omega,?_⟩;simp only[lA,go_sem];refine⟨⟨((y::acc),qzY (· != 10) l i),?_,qjq h2,hK.comment hi hb h35⟩,⟨rfl,sP3 qza,qza,sP1 qza⟩,?_⟩;{have:=qx1 (p:=(· != 10)) hi (by rw[eq_of_beq h35];rfl);show acc.length+1<=_;omega};{have:=qx1 (p:=(· != 10)) hi (by rw[eq_of_beq h35];rfl);show l.length-qzY (· != 10) l i<l.length-i;omega}};{refine ⟨l[i],rfl,?_⟩;simp only[lA,go_sem];refine⟨fun hd=>?_,fun hd=>?_⟩;{refine Or.inr (Or.inl ⟨l,i,rfl,h2,by omega,?_⟩);simp only[lA,go_sem];have hj:=qx1 hi hd;have ht:=qjF hi hd;refine⟨l,i,qzY Lg.qkC l i,rfl,hj,qjq h2,by omega,by rw[qq5];exact zqA _ _,fun hc=>?_,fun hc=>?_⟩;{rw[if_pos hc]at ht;simp only[lA,go_sem];exact⟨_,.cons (.nil 4 false) (.cons (.rfl _) (.cons (.rfl _) .nil)),hK.bad hi hb h35 ht (by decide)⟩};{rw[if_neg (by rw[hc];decide)]at ht;have hlen:((l.take (qzY Lg.qkC l i)).drop i).length=qzY Lg.qkC l i-i:=by{rw[qq5,qjp]};have hj2:=qjq (p:=Lg.qkC) h2;have hK1:=hK.more hi hb h35 ht (by show 1<=((l.take (qzY Lg.qkC l i)).drop i).length;omega);simp only[lA,go_sem];refine⟨by omega,by omega,by omega,⟨((y::acc)++[(⟨3,(l.take (qzY Lg.qkC l i)).drop i,Lg.dec ((l.take (qzY Lg.qkC l i)).drop i),i⟩:Tok)],_),?_,?_,hK1⟩,⟨rfl,sP1 (qzd ?_ (sP1 qza)),qza,qxW (l:=(y::acc)) rfl⟩,?_⟩;{show((y::acc)++[(⟨3,(l.take (qzY Lg.qkC l i)).drop i,Lg.dec ((l.take (qzY Lg.qkC l i)).drop i),i⟩:Tok)]).length<=i+((l.take (qzY Lg.qkC l i)).drop i).length;simp only[lC,lH,lB];omega};{show i+((l.take (qzY Lg.qkC l i)).drop i).length<=l.length;omega};{show _=some (qwh 75 ((y::acc)++[_]));rw[qxz];rfl};{show l.length-(i+((l.take (qzY Lg.qkC l i)).drop i).length)<l.length-i;omega}}};{refine⟨l[i],rfl,?_⟩;simp only[lA,go_sem];refine⟨fun hw=>?_,fun hw=>?_⟩;{refine Or.inr (Or.inr ⟨l,i,rfl,h2,by omega,?_⟩);simp only[lA,go_sem];have hj:=qx1 hi (qwd hw);have hj2:=qjq (p:=Lg.qqr) h2;have ht:=qxV hi hd hw;refine⟨l,i,qzY Lg.qqr l i,rfl,by omega,hj2,by omega,fun hc=>?_,fun hc=>?_⟩;{rw[if_pos hc]at ht;simp only[lA,go_sem];exact⟨_,.cons (.nil 4 false) (.cons (.rfl _) (.cons (.rfl _) .nil)),hK.bad hi hb h35 ht (by decide)⟩};{rw[if_neg (by omega)]at ht;have hlen:((l.take (qzY Lg.qqr l i)).drop i).length=qzY Lg.qqr l i-i:=by{rw[qq5,qjp]};have hK1:=hK.more hi hb h35 ht (by show 1<=((l.take (qzY Lg.qqr l i)).drop i).length;omega);simp only[lA,go_sem];refine⟨by omega,by omega,by omega,⟨((y::acc)++[(⟨if Lg.wxa ((l.take (qzY Lg.qqr l i)).drop i)then 2 else 1,(l.take (qzY Lg.qqr l i)).drop i,0,i⟩:Tok)],_),?_,?_,hK1⟩,⟨rfl,sP1 (qzd ?_ (sP1 qza)),qza,qxW (l:=(y::acc)) rfl⟩,?_⟩;{show((y::acc)++[(⟨if Lg.wxa ((l.take (qzY Lg.qqr l i)).drop i)then 2 else 1,(l.take (qzY Lg.qqr l i)).drop i,0,i⟩:Tok)]).length<=i+((l.take (qzY Lg.qqr l i)).drop i).length;simp only[lC,lH,lB];omega};{show i+((l.take (qzY Lg.qqr l i)).drop i).length<=l.length;omega};{show _=some (qwh 75 ((y::acc)++[_]));rw[qxz];rfl};{show l.length-(i+((l.take (qzY Lg.qqr l i)).drop i).length)<l.length-i;omega}}};{have ht:=qkh hi hd hw;refine⟨by omega,by omega,l.drop i,rfl,?_,?_⟩;{rw[List.drop_eq_getElem_cons hi];exact List.cons_ne_nil _ _};simp only[lA,go_sem];refine⟨fun hc=>?_,fun hc=>?_⟩;{rw[if_pos (eq_of_beq hc)]at ht;exact⟨_,.cons (.nil 4 false) (.cons (.rfl _) (.cons (.rfl _) .nil)),hK.bad hi hb h35 ht (by decide)⟩};{have hne:Lg.yks (l.drop i)≠[]:=ne_of_beq_false hc;rw[if_neg hne]at ht;have hl1:1<=(Lg.yks (l.drop i)).length:=by{cases e:Lg.yks (l.drop i)with|nil=>{exact absurd e hne}|cons _ _=>{simp}};have hl2:i+(Lg.yks (l.drop i)).length<=l.length:=by{have:=qvT (l.drop i);rw[List.length_drop]at this;omega};have hK1:=hK.more hi hb h35 ht hl1;refine⟨by omega,by omega,by omega,⟨((y::acc)++[(⟨4,Lg.yks (l.drop i),0,i⟩:Tok)],_),?_,?_,hK1⟩,⟨rfl,sP1 (qzd ?_ (sP1 qza)),qza,qxW (l:=(y::acc)) rfl⟩,?_⟩;{show((y::acc)++[(⟨4,Lg.yks (l.drop i),0,i⟩:Tok)]).length<=i+(Lg.yks (l.drop i)).length;simp only[lC,lH,lB];omega};{show i+(Lg.yks (l.drop i)).length<=l.length;omega};{show _=some (qwh 75 ((y::acc)++[_]));rw[qxz];rfl};{show l.length-(i+(Lg.yks (l.drop i)).length)<l.length-i;omega}}}}}};{have hi:i=l.length:=by{have:=lG h;omega};subst hi;exact⟨by omega,by omega,by simp,_,.cons (.rfl _) (.cons (.rfl _) (.cons (.rfl _) .nil)),hK.fin⟩}}}
open Go Go.RowKit
theorem block_lt' {w:World}{a:Addr}{v:Value}(h:w.cell? a=some v):a.block<w.heap.size:=by
 apply Classical.byContradiction;intro hn;unfold World.cell? at h;rw[Array.getElem?_eq_none (by omega)]at h;cases h
theorem Aft.below {g:Gh}{bx:Bx}{w w':World}(h:Wd g bx nix w)(hB:Below w.heap.size w w'):Aft g bx w g nix none w' where
 Φ:=Phi.le_refl _
 fr:=⟨hB.os,hB.tape,hB.output,hB.size,fun b hb _=>hB.block b hb⟩
 fix:=fun _ _ _ e=>Or.inl e
 wd:={
  box:=fun k b e=>by cases e
  arr:=fun r sz ty xs e=>by simp[ar0]at e
  len:=fun r=>by rw[h.len r];simp[ar0,nix]
  fx:=⟨fun b o v e=>by
   obtain⟨h1,h2⟩:=h.fx.1 b o v e;exact⟨by rw[hB.cell (block_lt' h1)];exact h1,h2⟩,h.fx.2⟩
  inj:=fun k k' b b' e=>by cases e
  inja:=fun r r' a a' e=>by simp[ar0]at e
  injb:=fun k r b a e=>by cases e
  outb:=fun k b o e=>by cases e
  outa:=fun r a o e _=>by simp[ar0]at e}
 keys:=fun k b e=>by cases e
 arr:=fun a e=>by cases e
theorem qvP (l:Bs)(c:UInt8):0<=Lib.indexByte l c↔l.contains c=true:=by
 rw[List.contains_iff_mem];constructor;{intro h;obtain⟨o,ho⟩:=Int.eq_ofNat_of_zero_le h;exact List.mem_of_getElem? (Lib.indexByte_some ho).1};{intro h;have:=Lib.indexByte_ge l c;rcases Nat.lt_or_ge 0 1 with _|_;{by_cases e:Lib.indexByte l c= -1;{obtain⟨k,hk⟩:=List.getElem?_of_mem h;exact absurd hk (Lib.indexByte_none e k)};omega};omega}
theorem yxk:OK Tryz.prog 123 yv3 where
 enters:=fun _ _=>rfl
 calls:=by
  rintro ys bx Kr Kp ⟨l,c,rfl,hK⟩ g vs w hv hw;rcases hv with _|⟨h1,_|⟨h2,_|_⟩⟩;rcases h1 with⟨⟨⟩⟩;rcases h2 with⟨⟨⟩⟩;refine(Go.Proofs.Tryz.strings_IndexByte ⟨l.toArray⟩ (c.toNat:Int) w).mono fun e w' he=>?_;obtain⟨rfl,rfl⟩:=he;exact⟨g,Or.inl ⟨_,_,nix,none,rfl,hK _ (by rw[show((c.toNat:Int).toNat.toUInt8)=c by simp];exact qvP l c),.d (.int _ _),Aft.below hw (Below.refl _ _)⟩⟩
def qkF (acc:Nat)(l:Bs):Nat:=l.foldl (fun n b=>n*10+(b.toNat-48)) acc
theorem zz2:∀(l:Bs) (acc:Nat),acc<=qkF acc l
 |[],acc=>Nat.le_refl _
 |b::l,acc=>by
  have:=zz2 l (acc*10+(b.toNat-48));show acc<=qkF (acc*10+(b.toNat-48)) l;omega
theorem wxO:∀(l:Bs) (acc:Nat),l.all Lg.qkC=true->
  Lib.parseUintM 18446744073709551615 acc l=.ok (qkF acc l)\/(Lib.parseUintM 18446744073709551615 acc l=.range/\9223372036854775807<qkF acc l)
 |[],acc,_=>Or.inl rfl
 |b::l,acc,h=>by
  rw[List.all_cons,Bool.and_eq_true]at h;have hd:48<=b.toNat/\b.toNat<=57:=by{have:=h.1;unfold Lg.qkC at this;simpa using this};have hge:=zz2 l (acc*10+(b.toNat-48));rw[Lib.parseUintM,if_pos hd];show _=Lib.NumEnd.ok (qkF (acc*10+(b.toNat-48)) l)\/_/\_<qkF (acc*10+(b.toNat-48)) l;split;exact Or.inr ⟨rfl,by omega⟩;{split;exact Or.inr ⟨rfl,by omega⟩;exact wxO l _ h.2}
theorem wk3 {l:Bs}(hne:l≠[])(h:l.all Lg.qkC=true):Lib.parseIntB 64 l=if 9223372036854775807<Lg.dec l then .range else .ok (Lg.dec l:Int):=by
 cases l with|nil=>{exact absurd rfl hne}|cons c r=>{have hd:48<=c.toNat/\c.toNat<=57:=by{have:=h;rw[List.all_cons,Bool.and_eq_true]at this;have:=this.1;unfold Lg.qkC at this;simpa using this};rw[Lib.parseIntB_plain 64 c r (by omega) (by omega)];unfold Lib.parseUintB;rw[if_neg hne];have e:qkF 0 (c::r)=Lg.dec (c::r):=rfl;rcases wxO (c::r) 0 h with h1|⟨h1,h2⟩;{show Lib.signlessC _ (Lib.parseUintM 18446744073709551615 0 (c::r))=_;rw[h1,e];show(if 9223372036854775808<=Lg.dec (c::r)then _ else _)=_;split;{rw[if_pos (by omega)]};{rw[if_neg (by omega)]}};{show Lib.signlessC _ (Lib.parseUintM 18446744073709551615 0 (c::r))=_;rw[e]at h2;rw[h1,if_pos h2];rfl}}
theorem wk2:OK Tryz.prog 120 wq2 where
 enters:=fun _ _=>rfl
 calls:=by
  rintro ys bx Kr Kp ⟨l,rfl,hne,hall,hl,hK1,hK2⟩ g vs w hv hw;rcases hv with _|⟨h1,_|⟨h2,_|⟨h3,_|_⟩⟩⟩;rcases h1 with⟨⟨⟩⟩;rcases h2 with⟨⟨⟩⟩;rcases h3 with⟨⟨⟩⟩;have hp:=wk3 hne hall;have hsz:(⟨l.toArray⟩:ByteArray).size=l.length:=by{simp[ByteArray.size]};by_cases hd:9223372036854775807<Lg.dec l;{rw[if_pos hd]at hp;obtain⟨v,hg⟩:=hw.fx.2;refine(Go.Proofs.Tryz.strconv_ParseInt_10_at64_range ⟨l.toArray⟩ (by omega) hp (.iface v.1 v.2) w (hw.fx.1 _ _ _ hg).1 (Or.inr ⟨_,_,rfl⟩)).mono fun e w' he=>?_;obtain⟨N,rfl,_,_,hB⟩:=he;exact⟨g,Or.inl ⟨_,_,nix,none,rfl,hK2 hd _ _ (.imm _),.tup (.cons (.d (.int _ _)) (.cons (.d (.ifc _ (.imm _))) .nil)),Aft.below hw hB⟩⟩};{rw[if_neg hd]at hp;refine(Go.Proofs.Tryz.strconv_ParseInt_10_at64_ok ⟨l.toArray⟩ (by omega) _ hp w).mono fun e w' he=>?_;obtain⟨rfl,he⟩:=he;have hB:Below w.heap.size w w':=by{rcases he with rfl|⟨t,rfl⟩;exact Below.refl _ _;exact Joins.below_bytesWorld _ _ _ _ (Nat.le_refl _)};exact⟨g,Or.inl ⟨_,_,nix,none,rfl,hK1 (by omega),.tup (.cons (.d (.int _ _)) (.cons (.d (.imm _)) .nil)),Aft.below hw hB⟩⟩}
theorem wx3:OK Tryz.prog 20 zzn:=wq3 Lg.yv0 (wj9 wk2 yxk)
end Lx
