import Derived.Test.YtkknljojdgpdaaaGreatDoorB22
import Derived.Test.YtkknljojdgpdaaaGreatDoorB26
import Derived.Test.YtkknljojdgpdaaaGreatDoorB15
set_option maxHeartbeats 32000000
set_option linter.unusedSimpArgs false
set_option linter.unusedVariables false
set_option maxRecDepth 20000
namespace Lg
theorem yzG {ts:List Tok}:Okf (sort ts) fun s=>0<=qqy s.text:=by
 unfold sort;refine .ite (fun h=>.ret ?_) (.ite (fun h=>.ret ?_) (.ite (fun h=>.bnd .any fun k ts' _=>.ret ?_) .err));{show 0<=qqy (hd ts).text;rw[qxg h];decide};{show 0<=qqy (hd ts).text;rw[qxg h];decide};{show 0<=qqy (hd ts).text;rcases Bool.or_eq_true _ _▸h with h|h;{rcases Bool.or_eq_true _ _▸h with h|h<;>(rw[qxg h];decide)};{rw[qxg h];decide}}
theorem zzc {s:Bs}{p:Int}{x:Tree}{ks:List Tree}{ts:List Tok}(hx:0<=qqy x.text):Okf (qqI (.node 1 s 0 p (x::ks)) ts) fun t=>0<=qqy (qj7 t).text:=by
 refine .ite (fun _=>.bnd .any fun _ ts1 _=>.bnd .any fun _ ts2 _=>.ret hx) (.bnd .any fun _ ts2 _=>.ret hx)
theorem yxb {ts:List Tok}:Okf (zko ts) fun x=>x.kind=1->0<=qqy (qj7 x).text:=by
 refine .ite (fun _=>fun x ts' e h=>?_) (.bnd .any fun _ ts1 _=>fun x ts' e _=>?_);{have:Okf (fn (hd ts).pos ts.tail) fun x=>x.kind=6:=.bnd .any fun n ts1 _=>.bnd .any fun ps ts2 _=>.bnd .any fun r ts3 _=>.bnd .any fun b ts4 _=>.ret rfl;rw[this x ts' e]at h;exact absurd h (by decide)};{have:Okf (typ (hd ts).pos ts1) fun x=>0<=qqy (qj7 x).text:=.bnd .any fun n ts2 _=>.bnd yzG fun s ts3 hs=>.ite (fun _=>.bnd .any fun _ ts4 _=>.bnd .any fun _ ts5 _=>zzc hs) (zzc hs);exact this x ts' e}
theorem zwV:∀(n:Nat) (ts:List Tok),ts.length<=n->Okf (qw1 ts) fun xs=>∀x∈xs,x.kind=1->0<=qqy (qj7 x).text
 |n,ts,hn=>by
  rw[qw1];refine .ite (fun _=>.ret (by simp)) ?_;cases e:zko ts with|error _=>{exact .err}|ok p=>{obtain⟨x,ts'⟩:=p;have h1:=yxb _ _ e;simp only;split;{rename_i hl;match n,hn with|0,hn=>{omega}|n+1,hn=>{exact .bnd (zwV n ts' (by omega)) fun xs ts'' hx=>.ret (by{intro y hy;rcases List.mem_cons.1 hy with rfl|hy;exact h1;exact hx y hy})}};exact .err}
theorem zxY {l:Bs}{t:Tree}(h:qwW l=.ok t):∀k∈t.kids,k.kind=1->0<=qqy (qj7 k).text:=by
 unfold qwW at h;split at h;{cases h};{rename_i ts e;unfold qjP at h;split at h;{cases h};{rename_i ks ts' e2;have h1:=zwV _ ts (Nat.le_refl _) _ _ e2;split at h;{cases h};{simp only[Except.ok.injEq]at h;subst h;exact h1}}}
def wxU:Tree:=.node 0 [] 0 0 []
def rdT (l:Bs):Option Tree:=match qwW l with
 |.ok t=>some t
 |.error e=>if e.2=0 then some wxU else none
structure Rd (n:Tree):Prop where
 size:size n<=4096
 tops:kj2 n
 sorts:∀k∈n.kids,k.kind=1->0<=qqy (qj7 k).text
 fns:Fns n
theorem jqU:Rd wxU:=⟨by decide,(fun k hk=>by cases hk),(fun k hk=>by cases hk),(fun k hk=>by cases hk)⟩
theorem jqT {l:Bs}{n:Tree}(h:rdT l=some n):Rd n:=by
 unfold rdT at h;cases e:qwW l with|ok t=>{rw[e]at h;cases h;exact⟨(zkZ e).2,zva e,zxY e,zws e⟩}|error x=>{rw[e]at h;simp only at h;split at h;{cases h;exact jqU};{cases h}}
def jwW (n:Tree):List Ty:=match qxC [] n.kids with
 |.ok t=>t
 |.error _=>[]
def kkl (t:List Ty)(n:Tree):List Sg:=match zzL t n.kids []with
 |.ok g=>g
 |.error _=>[]
def kkO (n:Tree):List Tree:=n.kids.filter fun k=>k.kind==6
def kq6 (l:Bs):Option (Tree×List Ty×List Sg):=match rdT l with
 |none=>none
 |some n=>match qxC [] n.kids with
  |.error _=>none
  |.ok t=>match zzL t n.kids []with
    |.error _=>none
    |.ok g=>some (n,t,g)
theorem qvr:∀{ks:List Tree} {acc t:List Ty},qxC acc ks=.ok t->t.length<=acc.length+ks.length
 |[],acc,t,h=>by cases h;simp
 |k::ks,acc,t,h=>by
  unfold qxC at h;split at h;{cases e:wvV acc k with|error x=>{rw[e]at h;cases h}|ok x=>{rw[e]at h;have:=qvr h;simp only[lC,lB,lH]at this⊢;omega}};{have:=qvr h;simp only[lB];omega}
theorem zqH {a c:Int}:∀{ks:List Tree} {acc:List Ty},qxC acc ks=.error (a,c)->c≠0
 |[],acc,h=>by cases h
 |k::ks,acc,h=>by
  unfold qxC at h;split at h;{cases e:wvV acc k with|error x=>{obtain⟨a',c'⟩:=x;rw[e]at h;cases h;exact Lx.wj4 e}|ok x=>{rw[e]at h;exact zqH h}};exact zqH h
theorem zjG {t:List Ty}{a c:Int}:∀{ks:List Tree} {acc:List Sg},zzL t ks acc=.error (a,c)->c≠0
 |[],acc,h=>by cases h
 |k::ks,acc,h=>by
  unfold zzL at h;split at h;{cases e:wjK t k with|error x=>{obtain⟨a',c'⟩:=x;rw[e]at h;cases h;exact wjJ e}|ok x=>{rw[e]at h;exact zjG h}};exact zjG h
end Lg
namespace Lx
open Go
open Lg (Tok Tree Ty Par Sg)
open Go.Proofs (Tryz.prog)
open Go.Proofs.Tryz
def zkl (F:List Tree)(T:List Ty)(G:List Sg):D:=.ag [.sl 5 (qze F) false,.sl 5 (T.map qzK) false,.sl 5 (G.map qxE) false,.sl 5 (qze F) false,.sl 5 (T.map qzK) false,.sl 5 (G.map qxE) false]
def yvt:qzP:=fun ys bx Kr _=>∃l,ys=[.d (.st l)]/\match Lg.kq6 l with
 |some (n,T,G)=>Kr (.tup [.d (zkl (Lg.kkO n) T G),.d (.bool true)]) nix none
 |none=>∀F T G,Kr (.tup [.d (zkl F T G),.d (.bool false)]) nix none
theorem zwt {l:List UInt8}{ys:List LV}{bx:Bx}{Kr:LV->Bx->Ar1->Prop}{Kp:D->Bx->Prop}(hy:ys=[.d (.st l)])
  (h:∀(t:Tree) (a c:Int),((c != 0)=false/\Lg.rdT l=some t\/(c != 0)=true/\Lg.rdT l=none)->Kr (.tup [.d (qzr t),iD a,iD c]) nix none):zzn ys bx Kr Kp:=by
 refine⟨l,hy,?_⟩;cases hp:Lg.qwW l with|error q=>{by_cases hc:q.2=0;exact h _ q.1 q.2 (.inl ⟨by simpa using hc,by rw[Lg.rdT,hp];exact if_pos hc⟩);exact h _ q.1 q.2 (.inr ⟨by simpa using hc,by rw[Lg.rdT,hp];exact if_neg hc⟩)}|ok t=>{exact h t 0 0 (.inl ⟨rfl,by rw[Lg.rdT,hp]⟩)}
theorem wx7 {n:Tree}{ys:List LV}{bx:Bx}{Kr:LV->Bx->Ar1->Prop}{Kp:D->Bx->Prop}(hn:Lg.Rd n)(hy:ys=[.d (qzr n)])
  (h:∀(a c:Int),((c != 0)=false/\Lg.qxC [] n.kids=.ok (Lg.jwW n)\/(c != 0)=true/\∃e,Lg.qxC [] n.kids=.error e)->Kr (.tup [.d (.sl 5 ((Lg.jwW n).map qzK) false),iD a,iD c]) nix none):zv2 ys bx Kr Kp/\zxT ys bx Kr Kp:=by
 have key:match Lg.qxC [] n.kids with|.ok t=>Kr (.tup [.d (.sl 5 (t.map qzK) false),iD 0,iD 0]) nix none|.error (a,c)=>Kr (.tup [.d (.sl 5 [] false),iD a,iD c]) nix none:=by{unfold Lg.jwW at h;cases e:Lg.qxC [] n.kids with|ok t=>{rw[e]at h;exact h 0 0 (.inl ⟨rfl,rfl⟩)}|error x=>{obtain⟨a,c⟩:=x;rw[e]at h;exact h a c (.inr ⟨by have:=Lg.zqH e;simpa using this,_,rfl⟩)}};exact⟨⟨n,hy,hn.size,hn.tops,key⟩,⟨n,hy,hn.size,hn.tops,hn.sorts,key⟩⟩
theorem yzJ {n:Tree}{T:List Ty}{td:D}{ys:List LV}{bx:Bx}{Kr:LV->Bx->Ar1->Prop}{Kp:D->Bx->Prop}(hn:Lg.Rd n)(hy:ys=[.d (qzr n),.d td])(htd:zj9 td T)(hT:T.length<=4096)
  (h:∀(a c:Int),((c != 0)=false/\Lg.zzL T n.kids []=.ok (Lg.kkl T n)\/(c != 0)=true/\∃e,Lg.zzL T n.kids []=.error e)->Kr (.tup [.d (.sl 5 ((Lg.kkl T n).map qxE) false),iD a,iD c]) nix none):zvL ys bx Kr Kp:=by
 refine⟨n,td,T,hy,htd,hT,hn.size,hn.fns,?_⟩;unfold Lg.kkl at h;cases e:Lg.zzL T n.kids []with|ok t=>{rw[e]at h;exact h 0 0 (.inl ⟨rfl,rfl⟩)}|error x=>{obtain⟨a,c⟩:=x;rw[e]at h;exact h a c (.inr ⟨by have:=Lg.zjG e;simpa using this,_,rfl⟩)}
theorem zwK:OK Tryz.prog 8 yvt:=by
 refine fn_OK' qzu (E:=EV) (sp:=spL [(20,zzn),(21,zv2),(22,zvL),(23,zzn),(24,zxT),(25,zvL)]) qzt qzl (OKs.ok ⟨wx3,⟨wzJ,⟨wjG,⟨zwb,⟨zvV,⟨wqt,trivial⟩⟩⟩⟩⟩⟩) func8 rfl ntmps8 results8 call8 [] none ?_;rintro ys bx Kr Kp ⟨l,rfl,hK⟩;refine⟨[],rfl,trivial,by simp,?_⟩;simp only[go_sem];refine zwt rfl fun n a1 c1 h1=>?_;simp only[go_sem];refine⟨fun hc=>?_,fun hc=>?_⟩;{rcases h1 with⟨h,_⟩|⟨_,h⟩;{rw[hc]at h;cases h};{rw[Lg.kq6,h]at hK;exact⟨_,.cons (.ag (.cons (.nil 5 false) (.cons (.nil 5 false) (.cons (.nil 5 false) (.cons (.nil 5 false) (.cons (.nil 5 false) (.cons (.nil 5 false) .nil))))))) (qzb (.rfl _)),hK [] [] []⟩}};have hrd:Lg.rdT l=some n:=by{rcases h1 with⟨_,h⟩|⟨h,_⟩;exact h;{rw[hc]at h;cases h}};have hn:=Lg.jqT hrd;rw[Lg.kq6,hrd]at hK;simp only at hK;have hTl:(Lg.jwW n).length<=4096:=by{unfold Lg.jwW;cases e:Lg.qxC [] n.kids with|ok t=>{have:=Lg.qvr e;have:=qx7 hn.size;simp at*;omega}|error x=>{simp}};refine(wx7 hn (by rw[qzy]) fun a2 c2 h2=>?_).1;simp only[go_sem];refine yzJ hn (by rw[qzy]) (.inl ⟨_,rfl⟩) hTl fun a3 c3 h3=>?_;simp only[go_sem];refine zwt rfl fun n' a4 c4 h4=>?_;have hn':n'=n:=by{rcases h4 with⟨_,h⟩|⟨_,h⟩;{rw[hrd]at h;cases h;rfl};{rw[hrd]at h;cases h}};subst hn';simp only[go_sem];refine(wx7 hn (by rw[qzy]) fun a5 c5 h5=>?_).2;simp only[go_sem];refine yzJ hn (by rw[qzy]) (.inl ⟨_,rfl⟩) hTl fun a6 c6 h6=>?_;simp only[go_sem];generalize hT:Lg.jwW n'=T at h2 h3 h5 h6 hTl⊢;generalize hG:Lg.kkl T n'=G at h3 h6⊢;refine qqQ [13] (T:={q:List Tree×Nat //q.1=Lg.kkO (.node 0 [] 0 0 (n'.kids.take q.2))/\q.2<=n'.kids.length}) (fun q=>⟨122,put 2 (.bp 2 0) (put 9 (iD c2) (put 10 (.d (.sl 5 (G.map qxE) false)) (put 12 (iD c3) (put 13 (.ep (qzr n') 0) (put 19 (.d (.sl 5 (G.map qxE) false)) (put 22 (.bp 22 0) (put 72 (.d (.sl 5 (qze n'.kids) false)) (put 73 (iD n'.kids.length) (put 74 (iD q.1.2) nix))))))))),put 2 ⟨[.d (.imm (.slice none 0 0)),.d (.imm (.slice none 0 0)),.d (.imm (.slice none 0 0)),.d (.imm (.slice none 0 0)),.d (.imm (.slice none 0 0)),.d (.imm (.slice none 0 0))],30⟩ (put 22 ⟨[qqu 86 5 (qze q.1.1),.d (.sl 5 (T.map qzK) false),.d (.sl 5 (G.map qxE) false),qqu 96 5 (qze q.1.1),.d (.sl 5 (T.map qzK) false),.d (.sl 5 (G.map qxE) false)],30⟩ nix),qq4 86 5 92 (qze q.1.1) (qq4 96 5 100 (qze q.1.1) nix)⟩) (fun q=>n'.kids.length-q.1.2) ⟨([],0),rfl,by simp⟩ ?_ ?_;{simp only[qzy,go_sem];exact qzh (sP6 (sP4 qza)) (sP2 qza) qza};rintro⟨⟨xs,i⟩,g1,g2⟩;have ha:xs=Lg.kkO (.node 0 [] 0 0 (n'.kids.take i)):=g1;have hi:i<=n'.kids.length:=g2;dsimp only;clear g1 g2;have hla:xs.length<=i:=by{rw[ha];unfold Lg.kkO;exact Nat.le_trans (List.length_filter_le ..) (by show(n'.kids.take i).length<=i;rw[List.length_take];omega)};have hnl:=qx7 hn.size;obtain⟨l,hpl⟩:∃l,l=xs:=⟨_,rfl⟩;rcases xs with _|⟨z,xs⟩;all_goals have hla2:=hla;simp only[lB,lH]at hla2;simp only[qze,go_sem];refine⟨fun h=>?_,fun h=>?_⟩;{have hlt:i<n'.kids.length:=by{have:=lF h;omega};have hkat:(qze n'.kids)[i]?=some (qzr n'.kids[i]):=treeDs_at' hlt;have e1:Lg.kkO (.node 0 [] 0 0 (n'.kids.take (i+1)))=l++(if n'.kids[i].kind==6 then [n'.kids[i]]else []):=by{rw[hpl.trans ha];exact qvi (p:=fun x:Tree=>x.kind==6) hlt};refine⟨by omega,by omega,?_⟩;rw[lA,hkat];generalize n'.kids[i]=k at hkat e1⊢;simp only[qzy,go_sem];refine⟨fun h6=>?_,fun h6=>?_⟩;{rw[if_pos h6]at e1;(repeat' apply And.intro);(all_goals first|(omega)|skip);all_goals refine qzm [] [] (wT 0 (wT 2 (wT 4 (wR 3 (wR 5 (wR 6 (wB 1 (wD 7 8 (wT 9 (wA 10 wZ))) 7 (wD 1 8 (wT 9 (wA 10 wZ)))))))))) ?_;have c0:(0<=(i:Int))=True:=eq_true (by omega);have c1':((i:Int)<n'.kids.length)=True:=eq_true (by omega);simp only[c0,c1',lA,hkat,qzy,go_sem];(repeat' apply And.intro);all_goals first|(omega)|exact⟨⟨(l++[k],i+1),e1.symm,hlt⟩,qzh (sP6 (sP4 qza)) (sP1 (qzd (by simp[put,qqu,hpl,qze,qzp,qzn]) qza)) (by show qqW _ (qq4 86 5 92 (qze (l++[k])) (qq4 96 5 100 (qze (l++[k])) nix));rw[hpl];simp only[qzp,qze,List.nil_append,List.cons_append,qq4];exact sP2 qza),by show n'.kids.length-(i+1)<n'.kids.length-i;omega⟩};{rw[h6,if_neg (by decide),List.append_nil]at e1;refine⟨⟨by omega,by omega⟩,?_⟩;exact⟨⟨(l,i+1),e1.symm,hlt⟩,qzh (sP6 (sP4 qza)) (sP1 (qzd (by simp[put,qqu,hpl,qze,qzp,qzn]) qza)) (by show qqW _ (qq4 86 5 92 (qze l) (qq4 96 5 100 (qze l) nix));rw[hpl];exact fun _ _ h=>h),by show n'.kids.length-(i+1)<n'.kids.length-i;omega⟩}};{have hie:i=n'.kids.length:=by{have:=lG h;omega};rw[hie,List.take_length]at ha;have ha:l=Lg.kkO n':=hpl.trans ha;refine qzm [22] [] (wT 1 (wR 0 (wR 2 (wT 3 (wR 4 (wR 5 (wR 6 (wT 7 (wR 8 (wR 9 (wR 10 (wR 11 (wR 12 (wR 13 (wR 14 (wT 15 (wR 16 (wR 17 (wR 18 (wR 19 (wR 20 (wR 21 (wR 22 (wA 23 (wT 24 wZ))))))))))))))))))))))))) ?_;simp only[qze,lE,go_sem];have hbad:(∀F T G,Kr (.tup [.d (zkl F T G),.d (.bool false)]) nix none)->∃es,D.les [zkl l T G,.bool false] es/\Kr (one1 es) nix none:=fun h=>⟨_,.cons (.rfl _) (qzb (.rfl _)),h _ _ _⟩;have hno:∀{e},Lg.qxC [] n'.kids=.error e\/(∃t,Lg.qxC [] n'.kids=.ok t/\Lg.zzL t n'.kids []=.error e)->∀F T G,Kr (.tup [.d (zkl F T G),.d (.bool false)]) nix none:=fun h=>by{rcases h with h|⟨t,h,h'⟩;{rw[h]at hK;exact hK};{rw[h]at hK;simp only at hK;rw[h']at hK;exact hK}};refine⟨fun d2=>⟨fun d3=>⟨fun d4=>?_,fun d4=>?_⟩,fun d3=>?_⟩,fun d2=>?_⟩;{rcases h2 with⟨_,e2⟩|⟨e2,_⟩;rotate_left;{rw[bne,d2]at e2;cases e2};rcases h3 with⟨_,e3⟩|⟨e3,_⟩;rotate_left;{rw[bne,d3]at e3;cases e3};rw[e2]at hK;simp only at hK;rw[e3]at hK;simp only at hK;rw[<-ha,hpl]at hK;rw[d4];first|(exact⟨_,.cons (.rfl _) (qzb (.rfl _)),hK⟩)|exact⟨_,.cons (.ag (.cons (.nil 5 false) (.cons (.rfl _) (.cons (.rfl _) (.cons (.nil 5 false) (.cons (.rfl _) (.cons (.rfl _) .nil))))))) (qzb (.rfl _)),hK⟩};{exfalso;rcases h2 with⟨_,e2⟩|⟨e2,_⟩;rotate_left;{rw[bne,d2]at e2;cases e2};rcases h3 with⟨_,e3⟩|⟨e3,_⟩;rotate_left;{rw[bne,d3]at e3;cases e3};have:=(Lg.zzK hn.fns (by simp) e3).2;rw[show(n'.kids.filter fun k=>k.kind==6)=l from ha.symm,hpl]at this;rw[this]at d4;simp at d4};{rcases h2 with⟨_,e2⟩|⟨e2,_⟩;rotate_left;{rw[bne,d2]at e2;cases e2};rcases h3 with⟨e3,_⟩|⟨_,e,e3⟩;{rw[bne,d3]at e3;cases e3};have:=hno (.inr ⟨_,e2,e3⟩);first|(exact⟨_,.cons (.rfl _) (qzb (.rfl _)),this (z::xs) _ _⟩)|exact⟨_,.cons (.ag (.cons (.nil 5 false) (.cons (.rfl _) (.cons (.rfl _) (.cons (.nil 5 false) (.cons (.rfl _) (.cons (.rfl _) .nil))))))) (qzb (.rfl _)),this [] _ _⟩};{rcases h2 with⟨e2,_⟩|⟨_,e,e2⟩;{rw[bne,d2]at e2;cases e2};have:=hno (.inl e2);first|(exact⟨_,.cons (.rfl _) (qzb (.rfl _)),this (z::xs) _ _⟩)|exact⟨_,.cons (.ag (.cons (.nil 5 false) (.cons (.rfl _) (.cons (.rfl _) (.cons (.nil 5 false) (.cons (.rfl _) (.cons (.rfl _) .nil))))))) (qzb (.rfl _)),this [] _ _⟩}}
end Lx
namespace Lg
theorem qq9 {α β:Type}{x:SR α}{f:α->SR β}{y:β}(h:zxE x f=.ok y):∃a,x=.ok a/\f a=.ok y:=by
 cases x with|error e=>{cases h}|ok a=>{exact⟨a,rfl,h⟩}
theorem zv3 {t:List Ty}{n:Tree}{x:Ty}(h:wvV t n=.ok x):qje t n.text<0/\(n.kids.filter qkB).length<=8/\x.name=n.text/\
  qv3 ((qj7 n).text==zvR) (n.kids.filter qkB) 0 (n.kids.filter qkB)=.ok x.fields/\wqa t (qj7 n) (n.kids.filter qkB) (n.kids.filter zvi)=.ok (x.sort,x.of)/\
  qvH x.sort x.of (n.kids.filter qkB) (n.kids.filter zvi)=.ok x.facts:=by
 unfold wvV at h;split at h;{cases h};split at h;{cases h};rename_i h1 h2;obtain⟨fs,h3,h⟩:=qq9 h;obtain⟨so,h4,h⟩:=qq9 h;obtain⟨xs,h5,h⟩:=qq9 h;simp only[Except.ok.injEq]at h;subst h;exact⟨by omega,by omega,rfl,h3,h4,h5⟩
structure SoundAt (t:List Ty)(i:Nat)(x:Ty):Prop where
 find:qje t x.name=i
 many:x.fields.length<=8
 size:∀(j:Nat) (h:j<x.fields.length),x.fields[j].2= -1\/(0<=x.fields[j].2/\x.sort=0/\∃h':x.fields[j].2.toNat<x.fields.length,x.fields[x.fields[j].2.toNat].2= -1)
 fact:∀g∈x.facts,(0<=g.1/\g.1<=x.fields.length)/\0<=g.2.1/\g.2.1<=x.fields.length
 num:x.sort=2\/x.sort=3->0<=x.of/\∃h:x.of.toNat<x.fields.length,x.fields[x.of.toNat].2= -1
 guar:x.sort=4->0<=x.of/\x.of<i/\∃h:x.of.toNat<t.length,t[x.of.toNat].sort=3
theorem zzx {own:Bool}{all:List Tree}:∀(ks:List Tree) (i:Nat) (fs:List (Bs×Int)),qv3 own all i ks=.ok fs->
  fs.length=ks.length/\∀(j:Nat) (h:j<ks.length) (h':j<fs.length),fieldAt own all (i+j) ks[j]=.ok fs[j]
 |[],i,fs,h=>by
   simp only[qv3,Except.ok.injEq]at h;subst h;exact⟨rfl,fun j h=>by simp at h⟩
 |k::ks,i,fs,h=>by
  rw[qv3]at h;obtain⟨y,h1,h⟩:=qq9 h;obtain⟨ys,h2,h⟩:=qq9 h;simp only[Except.ok.injEq]at h;subst h;obtain⟨h3,h4⟩:=zzx ks (i+1) ys h2;refine⟨by simp[h3],fun j hj hj'=>?_⟩;cases j with|zero=>{exact h1}|succ j=>{have:=h4 j (by simpa using hj) (by simpa using hj');rw[show i+1+j=i+(j+1) by omega]at this;simpa using this}
theorem wqF {s:Bs}{l:List Tree}(h:0<=qwt s l):∃h':(qwt s l).toNat<l.length,l[(qwt s l).toNat].kids.isEmpty=true:=by
 obtain⟨m,hm⟩:∃m:Nat,qwt s l=m:=⟨(qwt s l).toNat,by omega⟩;have:=zku (fun n:Tree=>n.text==s&&n.kids.isEmpty) l 0 m (by unfold qwt at hm;rw[hm];simp);obtain⟨h1,h2⟩:=this;rw[hm];simp only[lA];simp only[Bool.and_eq_true]at h2;exact⟨h1,h2.2⟩
theorem zjw {own:Bool}{all:List Tree}{i:Nat}{f:Tree}{y:Bs×Int}(h:fieldAt own all i f=.ok y)(he:f.kids.isEmpty=true):y.2= -1:=by
 unfold fieldAt at h;split at h;{cases h};{(try rw[if_pos he]at h);simp only[Except.ok.injEq]at h;rw[<-h]}
theorem zvl {own:Bool}{all:List Tree}{i:Nat}{f:Tree}{y:Bs×Int}(h:fieldAt own all i f=.ok y):y.2= -1\/(own=true/\∃s,0<=qwt s all/\y.2=qwt s all):=by
 unfold fieldAt at h;split at h;{cases h};split at h;{simp only[Except.ok.injEq]at h;rw[<-h];exact .inl rfl};split at h;{rename_i hc;simp only[Except.ok.injEq]at h;simp only[Bool.and_eq_true,decide_eq_true_eq]at hc;rw[<-h];exact .inr ⟨hc.1,_,hc.2,rfl⟩};{cases h}
theorem qvk {k o:Int}{fl:List Tree}{n x:Tree}{a:Int}(h:zqt k o fl n x=.ok a):0<=a/\a<=fl.length:=by
 unfold zqt at h;split at h;{simp only[Except.ok.injEq]at h;omega};split at h;{rename_i hc;simp only[Except.ok.injEq]at h;have:=qx0 (fun n:Tree=>n.text==x.text&&n.kids.isEmpty) fl 0;unfold qwt at hc h;omega};{cases h}
theorem zvo {w:Int->Int}{op:Bs}{a b k l m:Int}(ha:0<=a/\a<=m)(hb:0<=b/\b<=m):∀g∈yvX w op a b k l,(0<=g.1/\g.1<=m)/\0<=g.2.1/\g.2.1<=m:=by
 intro g hg;unfold yvX at hg;split at hg;{simp only[List.mem_singleton]at hg;subst hg;exact⟨ha,hb⟩};split at hg;{simp only[List.mem_singleton]at hg;subst hg;exact⟨ha,hb⟩};split at hg;{simp only[List.mem_cons,List.not_mem_nil,or_false]at hg;rcases hg with rfl|rfl;exact⟨ha,hb⟩;exact⟨hb,ha⟩};{simp at hg}
theorem qvG {k o:Int}{fl:List Tree}:∀(ns:List Tree) (xs:List (Int×Int×Int)),qvH k o fl ns=.ok xs->∀g∈xs,(0<=g.1/\g.1<=fl.length)/\0<=g.2.1/\g.2.1<=fl.length
 |[],xs,h=>by
   simp only[qvH,Except.ok.injEq]at h;subst h;intro g hg;simp at hg
 |n::ns,xs,h=>by
  rw[qvH]at h;obtain⟨ys,h1,h⟩:=qq9 h;obtain⟨zs,h2,h⟩:=qq9 h;simp only[Except.ok.injEq]at h;subst h;intro g hg;rcases List.mem_append.1 hg with hg|hg;{unfold wv1 at h1;obtain⟨a,ha,h1⟩:=qq9 h1;obtain⟨b,hb,h1⟩:=qq9 h1;simp only[Except.ok.injEq]at h1;subst h1;exact zvo (qvk ha) (qvk hb) g hg};exact qvG ns zs h2 g hg
theorem zjE {t:List Ty}{s:Tree}{fl fc:List Tree}{k o:Int}(h:wqa t s fl fc=.ok (k,o)):
  k=qqy s.text/\(k=2\/k=3->∃u,0<=qwt u fl/\o=qwt u fl)/\(k=4->∃u,0<=qje t u/\o=qje t u/\(t[(qje t u).toNat]?).map Ty.sort=some 3):=by
 unfold wqa at h;split at h;{split at h;{rename_i h1 h2;simp only[Except.ok.injEq,Prod.mk.injEq]at h;obtain⟨rfl,rfl⟩:=h;exact⟨rfl,fun _=>⟨_,h2,rfl⟩,fun e=>by omega⟩};{cases h}};split at h;{split at h;{split at h;{rename_i h1 h2 h3 h4;simp only[Except.ok.injEq,Prod.mk.injEq]at h;obtain⟨rfl,rfl⟩:=h;exact⟨h2.symm,fun e=>by omega,fun _=>⟨_,h3.1,rfl,h3.2⟩⟩};{cases h}};{cases h}};{rename_i h1 h2;simp only[Except.ok.injEq,Prod.mk.injEq]at h;obtain⟨rfl,rfl⟩:=h;exact⟨rfl,fun e=>absurd e h1,fun e=>absurd e h2⟩}
theorem zkv {α:Type}(p:α->Bool)(b:List α):∀(a:List α) (i:Nat),0<=qvc p a i->qvc p (a++b) i=qvc p a i
 |[],i,h=>by unfold qvc at h;omega
 |x::xs,i,h=>by
  rw[List.cons_append,qvc,qvc];rw[qvc]at h;split at h;{rename_i hp;rw[if_pos hp,if_pos hp]};{rename_i hp;rw[if_neg hp,if_neg hp];exact zkv p b xs (i+1) h}
theorem zkt {α:Type}(p:α->Bool)(x:α)(hx:p x=true):∀(a:List α) (i:Nat),qvc p a i<0->qvc p (a++[x]) i=i+a.length
 |[],i,h=>by simp[qvc,hx]
 |y::xs,i,h=>by
  rw[qvc]at h;rw[List.cons_append,qvc];split at h;omega;{rename_i hp;rw[if_neg hp,zkt p x hx xs (i+1) h];simp;omega}
theorem zkM {t:List Ty}{n:Tree}{x:Ty}(h:wvV t n=.ok x):SoundAt (t++[x]) t.length x:=by
 obtain⟨h1,h2,h3,h4,h5,h6⟩:=zv3 h;obtain⟨hl,hat⟩:=zzx _ _ _ h4;obtain⟨hs1,hs2,hs3⟩:=zjE h5;have hnum:∀u,0<=qwt u (n.kids.filter qkB)->∃h':(qwt u (n.kids.filter qkB)).toNat<x.fields.length,x.fields[(qwt u (n.kids.filter qkB)).toNat].2= -1:=by{intro u hu;obtain⟨h7,h8⟩:=wqF hu;have h9:(qwt u (n.kids.filter qkB)).toNat<x.fields.length:=by{omega};exact⟨h9,zjw (hat _ h7 h9) h8⟩};refine⟨?_,by omega,?_,?_,?_,?_⟩;{rw[h3];unfold qje at h1⊢;rw[zkt _ x (by simp[h3]) t 0 h1];simp};{intro j hj;rcases zvl (hat j (by omega) hj)with h7|⟨h7,u,h8,h9⟩;exact .inl h7;{right;refine⟨by rw[h9];exact h8,?_,?_⟩;{have e:(qj7 n).text=zvR:=eq_of_beq h7;rw[hs1,e];rfl};{obtain⟨h10,h11⟩:=hnum u h8;have e:x.fields[j].2.toNat=(qwt u (n.kids.filter qkB)).toNat:=by{rw[h9]};exact⟨by rw[e];exact h10,by simp only[e];exact h11⟩}}};{have:=qvG _ _ h6;rw[<-hl]at this;exact this};{intro hk;obtain⟨u,h7,h8⟩:=hs2 hk;obtain⟨h9,h10⟩:=hnum u h7;exact⟨by omega,by rw[h8];exact h9,by simp only[h8];exact h10⟩};{intro hk;obtain⟨u,h7,h8,h9⟩:=hs3 hk;have hr:=qx0 (fun x:Ty=>x.name==u) t 0;have hlt:(qje t u).toNat<t.length:=by{unfold qje at h7⊢;omega};rw[lD hlt]at h9;simp only[Option.map_some,Option.some.injEq]at h9;refine⟨by omega,by omega,by rw[h8,lC];omega,?_⟩;simp only[h8];rw[List.getElem_append_left hlt];exact h9}
theorem SoundAt.app {t:List Ty}{i:Nat}{x y:Ty}(h:SoundAt t i x):SoundAt (t++[y]) i x:=by
 refine⟨?_,h.many,h.size,h.fact,h.num,?_⟩;{have:=h.find;unfold qje at this⊢;rw[zkv _ _ _ _ (by omega),this]};{intro hk;obtain⟨h1,h2,h3,h4⟩:=h.guar hk;exact⟨h1,h2,by rw[lC];omega,by rw[List.getElem_append_left h3];exact h4⟩}
theorem qjE:∀(ns:List Tree) (acc t:List Ty),qxC acc ns=.ok t->(∀(i:Nat) (h:i<acc.length),SoundAt acc i acc[i])->∀(i:Nat) (h:i<t.length),SoundAt t i t[i]
 |[],acc,t,h,ha=>by
   simp only[qxC,Except.ok.injEq]at h;subst h;exact ha
 |n::ns,acc,t,h,ha=>by
  unfold qxC at h;split at h;{obtain⟨x,h1,h⟩:=qq9 h;refine qjE ns _ t h fun i hi=>?_;by_cases hlt:i<acc.length;{rw[List.getElem_append_left hlt];exact(ha i hlt).app};{have e:i=acc.length:=by{simp at hi;omega};subst e;have:(acc++[x])[acc.length]=x:=by{simp};rw[this];exact zkM h1}};exact qjE ns acc t h ha
def CB (g:Int×Int×Int):Prop:= -1000000000000000000<=g.2.2/\g.2.2<=1000000000000000000
theorem qwA {k o:Int}{fl:List Tree}:∀(ns:List Tree) (xs:List (Int×Int×Int)),(∀x∈ns,jqc x)->qvH k o fl ns=.ok xs->xs.length<=2*ns.length/\∀g∈xs,CB g
 |[],xs,_,h=>by cases h;exact⟨by simp,fun g hg=>by cases hg⟩
 |n::ns,xs,hn,h=>by
  rw[qvH]at h;obtain⟨ys,h1,h⟩:=qq9 h;obtain⟨zs,h2,h⟩:=qq9 h;cases h;obtain⟨h3,h4⟩:=qwA ns zs (fun x hx=>hn x (List.mem_cons_of_mem _ hx)) h2;unfold wv1 at h1;obtain⟨a,_,h1⟩:=qq9 h1;obtain⟨b,_,h1⟩:=qq9 h1;cases h1;obtain⟨ka,kb,hk,⟨b1,b2⟩,⟨b3,b4⟩⟩:=hn n (List.mem_cons_self ..);have e0:qj7 n=ka:=by{unfold qj7;rw[hk];rfl};have e1:yvy n=kb:=by{unfold yvy;rw[hk];rfl};rw[e0,e1];have hl:=Lx.qkr id n.text a b ka.num kb.num;refine⟨by rw[lC,lB];omega,fun g hg=>?_⟩;rcases List.mem_append.1 hg with hg|hg;{unfold yvX at hg;split at hg;{rw[List.mem_singleton.1 hg];exact⟨by show -1000000000000000000<=kb.num-ka.num-1;omega,by show kb.num-ka.num-1<=1000000000000000000;omega⟩};{split at hg;{rw[List.mem_singleton.1 hg];exact⟨by show -1000000000000000000<=kb.num-ka.num;omega,by show kb.num-ka.num<=1000000000000000000;omega⟩};{split at hg;{rcases List.mem_cons.1 hg with rfl|hg;exact⟨by show -1000000000000000000<=kb.num-ka.num;omega,by show kb.num-ka.num<=1000000000000000000;omega⟩;{rw[List.mem_singleton.1 hg];exact⟨by show -1000000000000000000<=ka.num-kb.num;omega,by show ka.num-kb.num<=1000000000000000000;omega⟩}};{cases hg}}}};exact h4 g hg
theorem qk4:∀(ns:List Tree) (acc t:List Ty),(∀k∈ns,k.kids.length<=4096)->(∀k∈ns,k.kind=1->wjv k/\0<=qqy (qj7 k).text)->(∀x∈acc,x.facts.length<=8192/\(∀g∈x.facts,CB g)/\0<=x.sort/\x.sort<=4)->qxC acc ns=.ok t->∀x∈t,x.facts.length<=8192/\(∀g∈x.facts,CB g)/\0<=x.sort/\x.sort<=4
 |[],acc,t,_,_,ha,h=>by cases h;exact ha
 |n::ns,acc,t,hn,hk,ha,h=>by
  unfold qxC at h;have hn2:∀k∈ns,k.kids.length<=4096:=fun k hk=>hn k (List.mem_cons_of_mem _ hk);have hk2:∀k∈ns,k.kind=1->wjv k/\0<=qqy (qj7 k).text:=fun k h=>hk k (List.mem_cons_of_mem _ h);split at h;{rename_i h1k;obtain⟨x,h1,h⟩:=qq9 h;refine qk4 ns _ t hn2 hk2 (fun y hy=>?_) h;rcases List.mem_append.1 hy with hy|hy;exact ha y hy;{rw[List.mem_singleton.1 hy];obtain⟨⟨_,hfc⟩,hsx⟩:=hk n (List.mem_cons_self ..) h1k;obtain⟨_,_,_,_,h5,h6⟩:=zv3 h1;obtain⟨h7,h8⟩:=qwA _ _ (fun z hz=>by{have:=List.mem_filter.1 hz;exact hfc z this.1 (by have:=this.2;unfold zvi at this;exact eq_of_beq this)}) h6;have h9:(n.kids.filter zvi).length<=n.kids.length:=List.length_filter_le ..;have h10:=hn n (List.mem_cons_self ..);obtain⟨h11,_⟩:=zjE h5;have h12:=qx0 (fun y:Bs=>y==(qj7 n).text) sorts 0;have h13:qqy (qj7 n).text=qvc (fun y:Bs=>y==(qj7 n).text) sorts 0:=rfl;rw[<-h13]at h12;rw[show(((0:Nat):Int)+sorts.length)=5 from rfl]at h12;exact⟨by omega,h8,by omega,by omega⟩}};exact qk4 ns acc t hn2 hk2 ha h
structure LibOk (T:List Ty)(G:List Sg):Prop where
 types:∀t∈T,Lx.TyOk T t
 sound:∀(i:Nat) (h:i<T.length),SoundAt T i T[i]
 tl:T.length<=4096
 gl:G.length<=4096
 sigs:∀g∈G,(∀p∈g.params,zvv T.length p)/\g.params.length<=8
theorem kq5 {l:Bs}{n:Tree}{T:List Ty}{G:List Sg}(h:kq6 l=some (n,T,G)):LibOk T G:=by
 unfold kq6 at h;cases e:rdT l with|none=>{rw[e]at h;cases h}|some m=>{rw[e]at h;simp only at h;have hm:=jqT e;cases e2:qxC [] m.kids with|error x=>{rw[e2]at h;cases h}|ok t=>{rw[e2]at h;simp only at h;cases e3:zzL t m.kids []with|error x=>{rw[e3]at h;cases h}|ok g=>{rw[e3]at h;cases h;have hkl:∀k∈n.kids,k.kids.length<=4096:=fun k hk=>by{obtain⟨i,hi,rfl⟩:=List.getElem_of_mem hk;exact Lx.qx7 (Lx.zxq hm.size hi)};have hnl:=Lx.qx7 hm.size;have hs:=qjE _ _ _ e2 (by simp);have hmo:=qk4 _ _ _ hkl (fun k hk h1=>⟨hm.tops k hk h1,hm.sorts k hk h1⟩) (by simp) e2;have htl:=qvr e2;obtain⟨hg1,hg2⟩:=zzK hm.fns (by simp) e3;have hgl:(n.kids.filter fun k=>k.kind==6).length<=n.kids.length:=List.length_filter_le ..;refine⟨fun x hx=>?_,hs,by simp at htl;omega,by simp at hg2;omega,hg1⟩;obtain⟨i,hi,rfl⟩:=List.getElem_of_mem hx;have hx1:=hs i hi;obtain⟨h1,h2,h3⟩:=hmo _ hx;refine⟨hx1.many,by omega,fun f hf=>?_,fun g hg=>?_,fun hk=>?_,fun hk=>?_,h3⟩;{obtain⟨j,hj,rfl⟩:=List.getElem_of_mem hf;rcases hx1.size j hj with h|⟨h4,_,h5,_⟩;omega;omega};{obtain⟨⟨a1,a2⟩,a3,a4⟩:=hx1.fact g hg;exact⟨a1,a2,a3,a4,h2 g hg⟩};{obtain⟨a1,a2,_⟩:=hx1.num hk;exact⟨a1,by omega⟩};{obtain⟨a1,a2,a3,a4⟩:=hx1.guar hk;exact⟨a1,by omega,fun u hu=>by rw[lD a3]at hu;cases hu;exact a4⟩}}}}
end Lg
namespace Lx
open Go
open Lg (Tok Tree Ty Par Sg Sym Chk Hp)
open Go.Proofs (Tryz.prog)
open Go.Proofs.Tryz
section
variable (g:Sg)
@[go_sem ↓]theorem jqA:D.lcs (qxE g)=[.d (.st g.name),.d (.sl 3 (g.params.map qqH) false),.d (.st g.ret.name),iD g.ret.mode,iD g.ret.typ]:=(rfl)
@[go_sem ↓]theorem kzm:D.cs (qxE g)=[.st g.name,.sl 3 (g.params.map qqH) false,.st g.ret.name,.int .i64 g.ret.mode,.int .i64 g.ret.typ]:=(rfl)
@[go_sem ↓]theorem ykt:D.flat (qxE g)=true:=(rfl)
@[go_sem ↓]theorem wwc:qqg (.d (qxE g))=some [.d (.st g.name),.d (.sl 3 (g.params.map qqH) false),.d (.st g.ret.name),iD g.ret.mode,iD g.ret.typ]:=(rfl)
@[go_sem ↓]theorem jq8:pcs (.d (qxE g))=some [.d (.st g.name),.d (.sl 3 (g.params.map qqH) false),.d (.st g.ret.name),iD g.ret.mode,iD g.ret.typ]:=(rfl)
@[go_sem ↓]theorem jq9:one (.d (qxE g))=false:=(rfl)
end
theorem zvN (g:Sg):D.ag [.st g.name,.sl 3 (g.params.map qqH) false,.st g.ret.name,.int .i64 g.ret.mode,.int .i64 g.ret.typ]=qxE g:=rfl
abbrev wxt:List UInt8:=[116,121,112,101,32,118,101,99,32,111,119,110,32,123,32,108,101,110,44,32,99,97,112,44,32,100,91,99,97,112,93,32,125,32,119,104,101,114,101,32,48,32,60,61,32,108,101,110,44,32,108,101,110,32,60,61,32,99,97,112,59,32,102,110,32,103,101,116,40,118,58,32,38,118,101,99,44,32,105,58,32,105,110,116,41,32,45,62,32,105,110,116,32,123,32,125]
def wlib:Tree×List Ty×List Sg:=match Lg.kq6 wxt with
 |some x=>x
 |none=>(Lg.wxU,[],[])
theorem wjz:Lg.kq6 wxt=some wlib:=by kernel_rfl
def wvU:Sg:=wlib.2.2.headD ⟨[],[],Lg.jxD⟩
theorem wjx:wlib.2.2=[wvU]:=by kernel_rfl
def kkd:Lg.Sta:=match Lg.zkJ wvU wlib.2.1 with
 |.ok s=>s
 |.error _=>⟨⟨[],0,[]⟩,[],[],[]⟩
theorem wjw:Lg.zkJ wvU wlib.2.1=.ok kkd:=by kernel_rfl
theorem jqd:kkd.vars=[([118],⟨2,0,0,0⟩),([105],⟨1,3,0,0⟩)]:=by kernel_rfl
theorem jqe:kkd.heap.chunks=[⟨3,0, -1,true,false,false,Lg.qjC,[⟨1,1,0,0⟩,⟨1,2,0,0⟩,⟨2,0,0,1⟩]⟩,⟨8, -1, -1,true,false,true,⟨1,2,0,0⟩,[]⟩]:=by kernel_rfl
def wj0:qzP:=fun ys bx Kr _=>ys=[]/\Kr (.d (.bool true)) nix none
theorem zv0:OKS Tryz.prog 9 wj0:=by
 refine qjV qzu (E:=EH) (sp:=spL [(8,yvt),(10,.c zkI)]) qzt qzl (OKs.ok ⟨zwK,⟨zq6,trivial⟩⟩) func9 rfl ntmps9 results9 call9 [] ?_;rintro ys bx Kr Kp ⟨rfl,hK⟩ hN;refine⟨trivial,by simp,?_⟩;simp only[hN.fgt,go_sem];refine⟨wxt,rfl,?_⟩;have hl:=wjz;have hG:wlib.2.2=[wvU]:=wjx;have hs:=wjw;have hv:=jqd;have hc:=jqe;revert hl hG hs;generalize wlib=w;intro hl hG hs;obtain⟨n0,T0,G0⟩:=w;have hok:=Lg.kq5 hl;simp only at hG hs;subst hG;obtain⟨hg1,hg2⟩:=hok.sigs wvU (by simp);rw[hl];simp only[hN.fgt,zkl,List.map_cons,List.map_nil,go_sem];refine qzm [1] [] (wT 0 (wT 4 (wR 1 (wR 2 (wR 3 (wR 5 (wB 6 (wT 7 (wR 8 (wR 9 (wD 10 11 (wT 12 wZ))))) 10 (wA 6 (wT 7 (wR 8 (wR 9 (wA 11 (wT 12 wZ))))))))))))) ?_;simp only[hN.fgt,zvN,go_sem];refine⟨?_,?_⟩;all_goals refine⟨wvU,_,T0,rfl,.inl ⟨_,rfl⟩,hok.types,by omega,fun p hp h1=>(hg1 p hp).2.2 h1,?_⟩;rw[hs];intro B h F vs bs cs hS;obtain⟨va,fv,us,hA,_⟩:=hS.heap;have qjT:=hA.box;have hvs:=hS.vars;have hck:=hA.chunks;rw[hv]at hvs;rw[hc]at hck;obtain⟨b,c,rfl,hc1,hb⟩:∃b c,vs=slD b 2 c/\2<=c/\B (b+1000000)=some (qj3 [zvw ([118],⟨2,0,0,0⟩),zvw ([105],⟨1,3,0,0⟩)] 5 55 c):=by{rcases hvs with⟨h,_⟩|⟨_,b,c,h1,h2,h3⟩;{cases h};exact⟨b,c,h1,h2,h3⟩};obtain⟨A,k,rfl,hk1,hA1⟩:∃A k,va=slD A 2 k/\2<=k/\B (A+1000000)=some (qxT [⟨3,0, -1,true,false,false,Lg.qjC,[⟨1,1,0,0⟩,⟨1,2,0,0⟩,⟨2,0,0,1⟩]⟩,⟨8, -1, -1,true,false,true,⟨1,2,0,0⟩,[]⟩] us k):=by{rcases hck with⟨h,_⟩|⟨_,b,c,h1,h2,h3⟩;{cases h};exact⟨b,c,h1,h2,h3⟩};have hul:us.length=2:=by{rw[hA.len,hc];rfl};obtain⟨u0,u1,rfl⟩:∃u0 u1,us=[u0,u1]:=by{match us,hul with|[a,b],_=>{exact⟨a,b,rfl⟩}};clear hvs hck hA hul;obtain⟨r1,hb⟩:∃r,B (b+1000000)=some ⟨[.d (.st [118]),iD 2,iD 0,iD 0,iD 0,.d (.st [105]),iD 1,iD 3,iD 0,iD 0]++r,55⟩:=⟨_,hb⟩;obtain⟨r2,hA1⟩:∃r,B (A+1000000)=some ⟨[iD 3,iD 0,iD (-1),.d (.bool true),.d (.bool false),.d (.bool false),iD 0,iD 0,iD 0,iD 0,.d u0,iD 8,iD (-1),iD (-1),.d (.bool true),.d (.bool false),.d (.bool true),iD 1,iD 2,iD 0,iD 0,.d u1]++r,62⟩:=⟨_,hA1⟩;unfold Lx.qjT at qjT;simp only[zqP,hS.blocks.one,hS.counts.one,hN.fgt,hN.fzb,qjT,hb,hA1,go_sem];refine qz8 [] ?_;simp only[hN.fgt,hN.fz,go_sem];exact⟨_,nix,qzb (.rfl _),qza,hK⟩
end Lx
namespace Lg
def Pre (h h':Hp):Prop:=∀(k:Nat) (c:Chk),h.chunks[k]?=some c->h'.chunks[k]?=some c
theorem Pre.rfl {h:Hp}:Pre h h:=fun _ _ e=>e
theorem Pre.trans {a b c:Hp}(h1:Pre a b)(h2:Pre b c):Pre a c:=fun k x e=>h2 k x (h1 k x e)
theorem Pre.of_eq {a b:Hp}(h:b.chunks=a.chunks):Pre a b:=fun k x e=>by rw[h];exact e
theorem qvs (h:Hp)(c:Chk):Pre h (h.put c).2:=fun k x e=>by
 have:=(List.getElem?_eq_some_iff.1 e).1;show(h.chunks++[c])[k]?=some x;rw[List.getElem?_append_left this];exact e
theorem zzj (h:Hp)(c:Chk):(h.put c).2.chunks[h.chunks.length]?=some c:=by
 show(h.chunks++[c])[h.chunks.length]?=some c;simp
theorem qkc {out:Int}:∀{fs:List (Bs×Int)} {i:Nat} {h:Hp} {q:List Sym×Hp},qjj out i fs h=.ok q->q.1.length=fs.length/\∀(j:Nat) (f:Bs×Int),fs[j]?=some f->∃s,q.1[j]?=some s/\if f.2<0/\¬((i+j:Nat):Int)=out then s.kind=1 else s=qjC
 |[],i,h,q,e=>by cases e;exact⟨rfl,fun j f hf=>by cases hf⟩
 |f::fs,i,h,q,e=>by
  unfold qjj at e;split at e;{rename_i hc;obtain⟨p,h1,h2⟩:=qzA e;obtain⟨r,h3,h4⟩:=qzA h2;cases h4;obtain⟨h5,h6⟩:=qkc h3;refine⟨by simp[h5],fun j g hg=>?_⟩;cases j with|zero=>{cases hg;exact⟨p.1,rfl,by rw[if_pos (by simpa using hc),qxa h1];rfl⟩}|succ j=>{have:=h6 j g (by simpa using hg);rw[show i+1+j=i+(j+1) by omega]at this;simpa using this}};{rename_i hc;obtain⟨r,h3,h4⟩:=qzA e;cases h4;obtain⟨h5,h6⟩:=qkc (q:=r) h3;refine⟨by simp[h5],fun j g hg=>?_⟩;cases j with|zero=>{cases hg;exact⟨qjC,rfl,by rw[if_neg (by simpa using hc)]⟩}|succ j=>{have:=h6 j g (by simpa using hg);rw[show i+1+j=i+(j+1) by omega]at this;simpa using this}}
theorem zzO {h:Hp}{b i k:Nat}{s:Sym}(hk:k≠b):(setCell h b i s).chunks[k]?=h.chunks[k]?:=by
 unfold setCell;split;{show(h.chunks.set b _)[k]?=_;rw[List.getElem?_set_ne (Ne.symm hk)]};rfl
theorem qjK {h:Hp}{b i:Nat}{s:Sym}{c:Chk}(hc:h.chunks[b]?=some c):(setCell h b i s).chunks[b]?=some {c with cells:=c.cells.set i s}:=by
 unfold setCell;rw[hc];show(h.chunks.set b _)[b]?=_;rw[List.getElem?_set_self (List.getElem?_eq_some_iff.1 hc).1]
theorem qkv {b:Nat}{kind:Int}:∀{fs:List (Bs×Int)} {i:Nat} {h h':Hp} {c:Chk},qxd b kind i fs h=.ok h'->h.chunks[b]?=some c->(∀(k:Nat) (x:Chk),k≠b->h.chunks[k]?=some x->h'.chunks[k]?=some x)/\∃cs,cs.length=c.cells.length/\h'.chunks[b]?=some {c with cells:=cs}
 |[],i,h,h',c,e,hc=>by cases e;exact⟨fun _ _ _ h=>h,c.cells,rfl,hc⟩
 |f::fs,i,h,h',c,e,hc=>by
  unfold qxd at e;split at e;exact qkv e hc;{obtain⟨a,h1,h2⟩:=qzA e;have ha:=qqo h1;have hb:=(List.getElem?_eq_some_iff.1 hc).1;have hc1:(h.put ⟨kind, -1, -1,true,false,true,cellAt h b f.2,[]⟩).2.chunks[b]?=some c:=qvs _ _ _ _ hc;have hca:a.chunks[b]?=some {c with cells:=c.cells.set i (h.put ⟨kind, -1, -1,true,false,true,cellAt h b f.2,[]⟩).1}:=by{rw[ha];exact qjK hc1};obtain⟨h3,cs,h4,h5⟩:=qkv h2 hca;refine⟨fun k x hk hx=>h3 k x hk ?_,cs,by rw[h4];simp,h5⟩;rw[ha];show(setCell _ b i _).chunks[k]?=some x;rw[zzO hk];exact qvs _ _ _ _ hx}
def qvN (T:List Ty)(p:Par):Int:=if(qxe T p.typ).sort=4 then(qxe T p.typ).of else p.typ
def qxS (T:List Ty)(p:Par):Ty:=qxe T (qvN T p)
structure BlkOf (T:List Ty)(p:Par)(h h':Hp)(v ct:Sym)(c:Chk):Prop where
 pre:Pre h h'
 ptr:v=⟨2,0,0,h.chunks.length⟩
 at_:h'.chunks[h.chunks.length]?=some c
 len:c.cells.length=(qxS T p).fields.length
 live:c.live=true
 arr:c.array=false
 cnt:ct.kind=1↔(qxS T p).sort=2
theorem qkM {T:List Ty}{i:Int}(h:0<=i/\i<T.length):qxe T i∈T/\T[i.toNat]?=some (qxe T i):=by
 have hl:i.toNat<T.length:=by{omega};have:T[i.toNat]?=some T[i.toNat]:=lD hl;unfold qxe;rw[this];exact⟨List.getElem_mem hl,rfl⟩
theorem zz8 {T:List Ty}{G:List Sg}(hT:LibOk T G){p:Par}(hp:0<=p.typ/\p.typ<T.length){h:Hp}{r:(Sym×Sym)×Hp}(e:zz9 p T h=.ok r):∃c,BlkOf T p h r.2 r.1.1 r.1.2 c:=by
 have ht:=qkM hp;have hso:=(hT.types _ ht.1);have hof4:(qxe T p.typ).sort=4->0<=(qxe T p.typ).of/\(qxe T p.typ).of<T.length/\(qxe T (qxe T p.typ).of).sort=3:=fun h4=>by{obtain⟨h1,h2,h3⟩:=hso.of4 h4;exact⟨h1,h2,h3 _ (qkM ⟨h1,h2⟩).2⟩};rw[Lx.zxA rfl rfl]at e;have hu:(if(qxe T p.typ).sort=4 then qxe T (qxe T p.typ).of else qxe T p.typ)=qxS T p:=by{unfold qxS qvN;split<;>rfl};rw[hu]at e;have hsort:(qxS T p).sort=2↔qqX p.mode (qxe T p.typ).sort=5:=by{unfold qxS qvN qqX;by_cases h4:(qxe T p.typ).sort=4;{rw[if_pos h4,(hof4 h4).2.2,h4];simp};{rw[if_neg h4];have:=hso.so;split;{rename_i h0;rw[h0];constructor;{intro h;omega};{intro h;split at h<;>(try split at h)<;>(try split at h)<;>omega}};{split;{rename_i h1;rw[h1];constructor;{intro h;omega};{intro h;split at h<;>omega}};{split;{rename_i h2;simp[h2]};{rename_i h2;constructor;{intro h;exact absurd h h2};{intro h;omega}}}}}};unfold restR at e;split at e;{rename_i h6;cases e;refine⟨_,qvs _ _,rfl,zzj _ _,by simp,rfl,rfl,?_⟩;refine⟨fun h=>absurd (show(0:Int)=1 from h) (by decide),fun h=>?_⟩;have:=hsort.1 h;rw[h6.1]at this;exact absurd this (by decide)};{obtain⟨c,h1,e⟩:=qzA e;obtain⟨h2,h3,e⟩:=qzA e;obtain⟨h4,h5,e⟩:=qzA e;obtain⟨h6,h7,e⟩:=qzA e;cases e;have hc:h4.chunks=h.chunks:=by{have h8:h2.chunks=h.chunks:=by{rw[qqo h3];exact qqS h1};split at h5;{rw[qqo h5];exact h8};{cases h5;exact h8}};have hl:=congrArg List.length hc;obtain⟨h8,h9⟩:=qkc h1;obtain⟨h10,cs,h11,h12⟩:=qkv h7 (zzj h4 _);rw[hl]at h12;refine⟨_,fun k x hx=>?_,?_,h12,h11.trans h8,rfl,rfl,?_⟩;{have hk:=(List.getElem?_eq_some_iff.1 hx).1;refine h10 k x (by omega) (qvs _ _ _ _ ?_);rw[hc];exact hx};{show(⟨2,0,0,h4.chunks.length⟩:Sym)=_;rw[hl]};{show(if qqX p.mode (qxe T p.typ).sort=5 then(c.1[(if(qxS T p).sort=2\/(qxS T p).sort=3 then(qxS T p).of else -1).toNat]?.getD qjC)else qjC).kind=1↔_;by_cases h5':qqX p.mode (qxe T p.typ).sort=5;{rw[if_pos h5'];have h2s:=hsort.2 h5';refine⟨fun _=>h2s,fun _=>?_⟩;have hn4:¬(qxe T p.typ).sort=4:=fun h4=>by{have:(qxS T p).sort=3:=by{unfold qxS qvN;rw[if_pos h4];exact(hof4 h4).2.2};omega};have htp:qxS T p=qxe T p.typ:=by{unfold qxS qvN;rw[if_neg hn4]};have hi:p.typ.toNat<T.length:=by{omega};have hge:T[p.typ.toNat]=qxe T p.typ:=by{have:=ht.2;rw[lD hi]at this;exact Option.some.inj this};have hs:=hT.sound p.typ.toNat hi;rw[hge,<-htp]at hs;obtain⟨o1,o2,o3⟩:=hs.num (.inl h2s);have hat:(if(qxS T p).sort=2\/(qxS T p).sort=3 then(qxS T p).of else -1)=(qxS T p).of:=if_pos (.inl h2s);rw[hat];obtain⟨s,q1,q2⟩:=h9 (qxS T p).of.toNat _ (lD o2);rw[o3,if_pos ⟨by decide,by{have:((qxe T p.typ).sort==4)=false:=by{simpa using hn4};rw[this];simp;omega}⟩]at q2;rw[q1];exact q2};{rw[if_neg h5'];exact⟨fun h=>absurd (show(0:Int)=1 from h) (by decide),fun h=>absurd (hsort.1 h) h5'⟩}}}
structure ParOf (T:List Ty)(h:Hp)(p:Par)(v:Bs×Sym)(b:Int)(ct:Sym):Prop where
 name:v.1=p.name
 int:p.mode=1->v.2.kind=1/\b= -1
 blk:p.mode≠1->v.2.kind=2/\0<=b/\∃c,h.chunks[b.toNat]?=some c/\c.cells.length=(qxS T p).fields.length/\c.live=true/\c.array=false/\(ct.kind=1↔(qxS T p).sort=2)
theorem ParOf.mono {T:List Ty}{h h':Hp}{p:Par}{v:Bs×Sym}{b:Int}{ct:Sym}(hP:ParOf T h p v b ct)(hp:Pre h h'):ParOf T h' p v b ct:=
 ⟨hP.name,hP.int,fun hm=>let⟨h1,h2,c,h3,h4⟩:=hP.blk hm;⟨h1,h2,c,hp _ _ h3,h4⟩⟩
theorem qwL {T:List Ty}{G:List Sg}(hT:LibOk T G):∀{ps done:List Par} {s s':Sta},(∀p∈ps,zvv T.length p)->(s.vars.length=done.length/\s.blocks.length=done.length/\s.counts.length=done.length)->(∀(i:Nat) (p:Par) (v:Bs×Sym) (b:Int) (ct:Sym),done[i]?=some p->s.vars[i]?=some v->s.blocks[i]?=some b->s.counts[i]?=some ct->ParOf T s.heap p v b ct)->qxP T ps s=.ok s'->
  (s'.vars.length=(done++ps).length/\s'.blocks.length=(done++ps).length/\s'.counts.length=(done++ps).length)/\∀(i:Nat) (p:Par) (v:Bs×Sym) (b:Int) (ct:Sym),(done++ps)[i]?=some p->s'.vars[i]?=some v->s'.blocks[i]?=some b->s'.counts[i]?=some ct->ParOf T s'.heap p v b ct
 |[],done,s,s',_,hl,hd,e=>by cases e;rw[List.append_nil];exact⟨hl,hd⟩
 |p::ps,done,s,s',hp,⟨l1,l2,l3⟩,hd,e=>by
  unfold qxP at e;obtain⟨s1,h1,e⟩:=qzA e;rw[show done++p::ps=(done++[p])++ps by simp];have snoc:∀{α:Type} {l:List α} {x y:α} {i:Nat},(l++[x])[i]?=some y->i<l.length/\l[i]?=some y\/i=l.length/\y=x:=by{intro α l x y i h;by_cases hi:i<l.length;{rw[List.getElem?_append_left hi]at h;exact .inl ⟨hi,h⟩};{rw[List.getElem?_append_right (by omega)]at h;have:i-l.length=0:=by{have:=(List.getElem?_eq_some_iff.1 h).1;simp at this;omega};rw[this]at h;simp at h;exact .inr ⟨by omega,h.symm⟩}};have hpp:=hp p (List.mem_cons_self ..);have key:∃H v b ct,s1=⟨H,s.vars++[(p.name,v)],s.blocks++[b],s.counts++[ct]⟩/\Pre s.heap H/\ParOf T H p (p.name,v) b ct:=by{unfold zxd at h1;split at h1;{rename_i hm;obtain⟨q,h2,h3⟩:=qzA h1;cases h3;have h4:=qxa h2;refine⟨_,_,_,_,rfl,?_,⟨rfl,fun _=>⟨by rw[h4];rfl,rfl⟩,fun h=>absurd hm h⟩⟩;rw[h4];exact .of_eq rfl};{rename_i hm;obtain⟨q,h2,h3⟩:=qzA h1;cases h3;obtain⟨c,hc⟩:=zz8 hT (hpp.2.2 hm) h2;refine⟨_,_,_,_,rfl,hc.pre,⟨rfl,fun h=>absurd h hm,fun _=>⟨by rw[hc.ptr],by rw[hc.ptr];exact Int.natCast_nonneg _,c,by rw[hc.ptr];exact hc.at_,hc.len,hc.live,hc.arr,hc.cnt⟩⟩⟩}};obtain⟨H,v,b,ct,rfl,hpre,hpar⟩:=key;refine qwL hT (fun q hq=>hp q (List.mem_cons_of_mem _ hq)) ⟨by simp[l1],by simp[l2],by simp[l3]⟩ (fun i q x y z hq hx hy hz=>?_) e;rcases snoc hq with⟨hi,hq⟩|⟨hi,rfl⟩;{(rcases snoc hx with⟨_,hx⟩|⟨hx,_⟩<;>rcases snoc hy with⟨_,hy⟩|⟨hy,_⟩<;>rcases snoc hz with⟨_,hz⟩|⟨hz,_⟩<;>first|omega|skip);exact(hd i q x y z hq hx hy hz).mono hpre};{rcases snoc hx with⟨hx,_⟩|⟨_,rfl⟩<;>rcases snoc hy with⟨hy,_⟩|⟨_,rfl⟩<;>rcases snoc hz with⟨hz,_⟩|⟨_,rfl⟩<;>first|omega|exact hpar}
theorem ww8 {T:List Ty}{G:List Sg}(hT:LibOk T G){g:Sg}(hg:∀p∈g.params,zvv T.length p){s:Sta}(e:zkJ g T=.ok s):
  (s.vars.length=g.params.length/\s.blocks.length=g.params.length/\s.counts.length=g.params.length)/\∀(i:Nat) (p:Par) (v:Bs×Sym) (b:Int) (ct:Sym),g.params[i]?=some p->s.vars[i]?=some v->s.blocks[i]?=some b->s.counts[i]?=some ct->ParOf T s.heap p v b ct:=by
 have:=qwL hT (done:=[]) hg ⟨rfl,rfl,rfl⟩ (by intro i p v b ct h;simp at h) e;simpa using this
theorem qku {h:Hp}{fs:List (Int×Int×Int)}{e:Int}(he:h.assume fs=.error e):e=22:=by
 unfold Hp.assume at he;split at he;{cases he;rfl};{cases he}
theorem qq8 {α β:Type}{x:HR α}{f:α->HR β}{e:Int}(h:zkw x f=.error e):x=.error e\/∃a,x=.ok a/\f a=.error e:=by
 cases x with|error y=>{cases h;exact .inl rfl}|ok a=>{exact .inr ⟨a,rfl,h⟩}
theorem zxw {h:Hp}{e:Int}(he:h.fresh=.error e):e=22:=by
 unfold Hp.fresh at he;split at he;{cases he;rfl};{rcases qq8 he with h|⟨a,_,h⟩;exact qku h;{cases h}}
theorem qv5 {out:Int}{e:Int}:∀{fs:List (Bs×Int)} {i:Nat} {h:Hp},qjj out i fs h=.error e->e=22
 |[],i,h,he=>by cases he
 |f::fs,i,h,he=>by
  unfold qjj at he;split at he;{rcases qq8 he with h|⟨a,_,h⟩;exact zxw h;{rcases qq8 h with h|⟨b,_,h⟩;exact qv5 h;{cases h}}};{rcases qq8 he with h|⟨b,_,h⟩;exact qv5 h;{cases h}}
theorem qkK {b:Nat}{kind e:Int}:∀{fs:List (Bs×Int)} {i:Nat} {h:Hp},qxd b kind i fs h=.error e->e=22
 |[],i,h,he=>by cases he
 |f::fs,i,h,he=>by
  unfold qxd at he;split at he;exact qkK he;{rcases qq8 he with h|⟨a,_,h⟩;exact qku h;exact qkK h}
theorem zvs {T:List Ty}{p:Par}{h:Hp}{e:Int}(he:zz9 p T h=.error e):e=22:=by
 rw[Lx.zxA rfl rfl]at he;unfold restR at he;split at he;{cases he};{rcases qq8 he with h|⟨a,_,he⟩;exact qv5 h;{rcases qq8 he with h|⟨a2,_,he⟩;exact qku h;{rcases qq8 he with h|⟨a3,_,he⟩;{split at h;exact qku h;{cases h}};{rcases qq8 he with h|⟨a4,_,he⟩;exact qkK h;{cases he}}}}}
theorem zj3 {T:List Ty}{e:Int}:∀{ps:List Par} {s:Sta},qxP T ps s=.error e->e=22
 |[],s,he=>by cases he
 |p::ps,s,he=>by
  unfold qxP at he;rcases qq8 he with h|⟨a,_,h⟩;{unfold zxd at h;split at h;{rcases qq8 h with h|⟨a,_,h⟩;exact zxw h;{cases h}};{rcases qq8 h with h|⟨a,_,h⟩;exact zvs h;{cases h}}};exact zj3 h
end Lg
namespace Lx
open Go
open Lg (Tok Tree Ty Par Sg Sym Chk Hp)
open Go.Proofs (Tryz.prog)
open Go.Proofs.Tryz
def wzl (Sp:qzP):qzP:=fun ys bx Kr Kp=>(∃ds:List D,ys=ds.map .d)/\Sp ys nix (fun x _ _=>(∃d,x=.d d)/\Kr x nix none) (fun d _=>Kp d nix)
theorem OKS.down {P:Program}{f:FuncId}{Sp:qzP}(h:OKS P f Sp):OK P f (wzl Sp) where
 enters:=h.enters
 calls ys bx Kr Kp hS g vs w has hwd:=by
  obtain⟨⟨ds,rfl⟩,hS⟩:=hS;obtain⟨g1,hg1⟩:∃g1:Gh,g1={g with β:=fun k=>k-1000000,len:=fun _=>none}:=⟨_,rfl⟩;have hΦ:g1.Φ=g.Φ:=by{rw[hg1]};have has1:LRps g1 (ds.map .d) vs:=LRps.ofD (by rw[hΦ];exact has.toD);have hwd1:Wd g1 nix nix w:=⟨fun k b hk=>(by cases hk),fun r sz ty xs hr=>(by cases hr),fun r=>by rw[hg1];rfl,by rw[hΦ];exact hwd.fx,fun k k' b b' hk=>(by cases hk),fun r r' a a' hr=>(by cases hr),fun k r b a hk=>(by cases hk),fun k b o hk=>(by cases hk),fun r a o hr=>(by cases hr)⟩;have hno:∀b,¬qq0 g1 nix b:=fun b ⟨k,x,hk,_⟩=>by{cases hk};have aft:∀{g' bx' w'},AftS g1 nix w g' bx' w'->Aft g bx w {g' with len:=fun _=>none} nix none w':=by{intro g' bx' w' hA;refine⟨hΦ▸hA.Φ,⟨hA.fr.os,hA.fr.tape,hA.fr.output,hA.fr.size,fun b hb _=>hA.fr.block b hb (hno b)⟩,fun b o v hv=>?_,⟨fun k b hk=>(by cases hk),fun r sz ty xs hr=>(by unfold ar0 at hr;split at hr<;>cases hr),fun r=>(by simp only[ar0];split<;>rfl),hA.wd.fx,fun k k' b b' hk=>(by cases hk),fun r r' a a' hr=>(by unfold ar0 at hr;split at hr<;>cases hr),fun k r b a hk=>(by cases hk),fun k b o hk=>(by cases hk),fun r a o hr=>(by unfold ar0 at hr;split at hr<;>cases hr)⟩,fun k b hk=>(by cases hk),fun a ha=>(by cases ha)⟩;rcases hA.fix b o v hv with h'|h'|h';exact .inl (hΦ▸h');exact absurd h' (hno b);exact .inr (.inr h')};refine(h.calls _ nix _ _ hS g1 vs w (fun k hk=>by rw[hg1]) (fun k b hk=>(by cases hk)) has1 hwd1).mono ?_;rintro e w' ⟨g',⟨x,v,bx',rfl,⟨⟨d,rfl⟩,hK⟩,hx,hA⟩|⟨d,v,bx',rfl,hK,hd,hA⟩⟩;{refine⟨{g' with len:=fun _=>none},.inl ⟨.d d,v,nix,none,rfl,hK,?_,aft hA⟩⟩;cases hx with|d hx=>{exact .d hx}};exact⟨{g' with len:=fun _=>none},.inr ⟨d,v,nix,rfl,hK,hd,aft hA⟩⟩
def wj6:qzP:=fun ys bx Kr _=>∃l:List UInt8,ys=[.d (.st l)]/\Kr (.d (.bool true)) nix none
theorem zjt {α:Type}{f:α->D}{sz:Nat}(hsz:∀x,(f x).lcs.length=sz):∀{l:List α} {i:Nat} {x:α},l[i]?=some x->∃A B,(l.map f).flatMap D.lcs=A++(f x).lcs++B/\A.length=i*sz
 |[],i,x,h=>by cases h
 |a::l,0,x,h=>by cases h;exact⟨[],(l.map f).flatMap D.lcs,by simp,by simp⟩
 |a::l,i+1,x,h=>by
  obtain⟨A,B,h1,h2⟩:=zjt hsz (l:=l) (i:=i) (x:=x) (by simpa using h);refine⟨(f a).lcs++A,B,?_,?_⟩;{rw[List.map_cons,List.flatMap_cons,h1];simp};{rw[lC,h2,hsz,Nat.add_mul,Nat.one_mul,Nat.add_comm]}
theorem zxC {α:Type}{f:α->D}{sz ty c i:Nat}{l:List α}{x:α}(j:Nat)(hsz:∀x,(f x).lcs.length=sz)(h:l[i]?=some x)(hj:j<sz):(qj3 (l.map f) sz ty c).cells[i*sz+j]?=(f x).lcs[j]?:=by
 obtain⟨A,B,h1,h2⟩:=zjt hsz h;have:=hsz x;unfold qj3;rw[h1,List.append_assoc,List.append_assoc,List.getElem?_append_right (by omega),List.getElem?_append_left (by omega)];congr 1;omega
theorem wx1 {α:Type}{f:α->D}{sz ty c i:Nat}{l:List α}{x:α}(hsz:∀x,(f x).lcs.length=sz)(h:l[i]?=some x):List.take sz (List.drop (i*sz) (qj3 (l.map f) sz ty c).cells)=(f x).lcs:=by
 obtain⟨A,B,h1,h2⟩:=zjt hsz h;have:=hsz x;unfold qj3;rw[h1,List.append_assoc,List.append_assoc,<-h2,List.drop_left,<-this,List.take_left]
theorem zq7 {α:Type}{f:α->D}{sz ty c i:Nat}{l:List α}(hsz:∀x,(f x).lcs.length=sz)(h:i<l.length):i*sz+sz<=(qj3 (l.map f) sz ty c).cells.length:=by
 unfold qj3;rw[lC,qvq (fun d hd=>by obtain⟨x,_,rfl⟩:=List.mem_map.1 hd;exact hsz x),lE];have:(i+1)*sz<=l.length*sz:=Nat.mul_le_mul_right _ h;rw[Nat.add_mul,Nat.one_mul]at this;omega
theorem zxe {B:Bx}{b sz ty c:Nat}{ds:List D}(f:Bx)(h:B (b+1000000)=some (qj3 ds sz ty c)):ovS B f (b+1000000)=some ⟨(qj3 ds sz ty c).cells,ty⟩:=by
 rw[qk8,if_pos (by omega),h];show some (Box.mk (dC (qj3 ds sz ty c).cells) ty)=_;rw[zq8]
theorem zq2 {cs:List Chk}{vs:List D}{b k:Nat}{x:Chk}{v:D}(h:cs[b]?=some x)(hv:vs[b]?=some v)(hl:vs.length=cs.length):List.take 11 (List.drop (b*11) (qxT cs vs k).cells)=(zqE x v).lcs:=by
 apply List.ext_getElem?;intro j;rw[List.getElem?_take];split;{rename_i hj;rw[List.getElem?_drop,zkE j k h hv hl hj]};{rename_i hj;have:(zqE x v).lcs.length=11:=by{simp[zqE,D.lcs]};rw[List.getElem?_eq_none (by omega)]}
end Lx
