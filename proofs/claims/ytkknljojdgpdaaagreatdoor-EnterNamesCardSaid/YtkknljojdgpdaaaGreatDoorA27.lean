import Derived.Test.YtkknljojdgpdaaaGreatDoorA21
import Derived.Test.YtkknljojdgpdaaaGreatDoorA26
import Derived.Test.YtkknljojdgpdaaaGreatDoorA15
set_option maxHeartbeats 32000000
set_option linter.unusedSimpArgs false
set_option linter.unusedVariables false
set_option maxRecDepth 20000
namespace Lg
theorem sort_m {ts:List Tok}:Okf (sort ts) fun s=>0<=qxf s.text:=by
 unfold sort;refine .ite (fun h=>.ret ?_) (.ite (fun h=>.ret ?_) (.ite (fun h=>.bnd .any fun k ts' _=>.ret ?_) .err))
 ·show 0<=qxf (hd ts).text;rw[qjg h];decide
 ·show 0<=qxf (hd ts).text;rw[qjg h];decide
 · show 0<=qxf (hd ts).text
   rcases Bool.or_eq_true _ _▸h with h|h
   ·rcases Bool.or_eq_true _ _▸h with h|h<;>(rw[qjg h];decide)
   ·rw[qjg h];decide
theorem zj3 {s:Bs}{p:Int}{x:Tree}{ks:List Tree}{ts:List Tok}(hx:0<=qxf x.text):Okf (qxw (.node 1 s 0 p (x::ks)) ts) fun t=>0<=qxf (kid0 t).text:=by
 refine .ite (fun _=>.bnd .any fun _ ts1 _=>.bnd .any fun _ ts2 _=>.ret hx) (.bnd .any fun _ ts2 _=>.ret hx)
theorem item_t {ts:List Tok}:Okf (item ts) fun x=>x.kind=1->0<=qxf (kid0 x).text:=by
 refine .ite (fun _=>fun x ts' e h=>?_) (.bnd .any fun _ ts1 _=>fun x ts' e _=>?_)
 · have:Okf (fn (hd ts).pos ts.tail) fun x=>x.kind=6:=.bnd .any fun n ts1 _=>.bnd .any fun ps ts2 _=>.bnd .any fun r ts3 _=>.bnd .any fun b ts4 _=>.ret rfl
   rw[this x ts' e]at h;exact absurd h (by decide)
 · have:Okf (typ (hd ts).pos ts1) fun x=>0<=qxf (kid0 x).text:=
    .bnd .any fun n ts2 _=>.bnd sort_m fun s ts3 hs=>.ite (fun _=>.bnd .any fun _ ts4 _=>.bnd .any fun _ ts5 _=>zj3 hs) (zj3 hs)
   exact this x ts' e
theorem items_t:∀(n:Nat) (ts:List Tok),ts.length<=n->Okf (zx6 ts) fun xs=>∀x∈xs,x.kind=1->0<=qxf (kid0 x).text
 |n,ts,hn=>by
  rw[zx6];refine .ite (fun _=>.ret (by simp)) ?_
  cases e:item ts with
  |error _=>exact .err
  |ok p=>
   obtain⟨x,ts'⟩:=p;have h1:=item_t _ _ e;simp only;split
   · rename_i hl
     match n,hn with
     |0,hn=>omega
     |n+1,hn=>exact .bnd (items_t n ts' (by omega)) fun xs ts'' hx=>.ret (by
       intro y hy
       rcases List.mem_cons.1 hy with rfl|hy
       ·exact h1
       ·exact hx y hy)
   ·exact .err
theorem parse_sorts {l:Bs}{t:Tree}(h:zjy l=.ok t):∀k∈t.kids,k.kind=1->0<=qxf (kid0 k).text:=by
 unfold zjy at h;split at h
 ·cases h
 · rename_i ts e;unfold qv2 at h;split at h
   ·cases h
   · rename_i ks ts' e2;have h1:=items_t _ ts (Nat.le_refl _) _ _ e2;split at h
     ·cases h
     ·simp only[Except.ok.injEq]at h;subst h;exact h1
def noTree:Tree:=.node 0 [] 0 0 []
def rdT (l:Bs):Option Tree:=match zjy l with
 |.ok t=>some t
 |.error e=>if e.2=0 then some noTree else none
structure Rd (n:Tree):Prop where
 size:size n<=4096
 tops:Tops n
 sorts:∀k∈n.kids,k.kind=1->0<=qxf (kid0 k).text
 fns:Fns n
theorem rd_no:Rd noTree:=⟨by decide,(fun k hk=>by cases hk),(fun k hk=>by cases hk),(fun k hk=>by cases hk)⟩
theorem rd_ok {l:Bs}{n:Tree}(h:rdT l=some n):Rd n:=by
 unfold rdT at h
 cases e:zjy l with
 |ok t=>
  rw[e]at h;cases h;exact⟨(parse_well e).2,parse_tops e,parse_sorts e,parse_fns e⟩
 |error x=>
  rw[e]at h;simp only at h;split at h
  ·cases h;exact rd_no
  ·cases h
def typesO (n:Tree):List Ty:=match qj9 [] n.kids with
 |.ok t=>t
 |.error _=>[]
def sigsO (t:List Ty)(n:Tree):List Sg:=match zvc t n.kids []with
 |.ok g=>g
 |.error _=>[]
def fnsOf (n:Tree):List Tree:=n.kids.filter fun k=>k.kind==6
def libR (l:Bs):Option (Tree×List Ty×List Sg):=match rdT l with
 |none=>none
 |some n=>match qj9 [] n.kids with
  |.error _=>none
  |.ok t=>match zvc t n.kids []with
    |.error _=>none
    |.ok g=>some (n,t,g)
theorem zqe:∀{ks:List Tree} {acc t:List Ty},qj9 acc ks=.ok t->t.length<=acc.length+ks.length
 |[],acc,t,h=>by cases h;simp
 |k::ks,acc,t,h=>by
  unfold qj9 at h;split at h
  · cases e:typR acc k with
    |error x=>rw[e]at h;cases h
    |ok x=>
     rw[e]at h;have:=zqe h;simp only[lC,lB,lH]at this⊢;omega
  ·have:=zqe h;simp only[lB];omega
theorem zwt {a c:Int}:∀{ks:List Tree} {acc:List Ty},qj9 acc ks=.error (a,c)->c≠0
 |[],acc,h=>by cases h
 |k::ks,acc,h=>by
  unfold qj9 at h;split at h
  · cases e:typR acc k with
    |error x=>obtain⟨a',c'⟩:=x;rw[e]at h;cases h;exact Lx.typR_ne e
    |ok x=>rw[e]at h;exact zwt h
  ·exact zwt h
theorem sigsR_ne {t:List Ty}{a c:Int}:∀{ks:List Tree} {acc:List Sg},zvc t ks acc=.error (a,c)->c≠0
 |[],acc,h=>by cases h
 |k::ks,acc,h=>by
  unfold zvc at h;split at h
  · cases e:sigR t k with
    |error x=>obtain⟨a',c'⟩:=x;rw[e]at h;cases h;exact sigR_ne e
    |ok x=>rw[e]at h;exact sigsR_ne h
  ·exact sigsR_ne h
end Lg
namespace Lx
open Go
open Lg (Tok Tree Ty Par Sg)
open Go.Proofs (Tryz.prog)
open Go.Proofs.Tryz
def libD (F:List Tree)(T:List Ty)(G:List Sg):D:=.ag [.sl 5 (qze F) false,.sl 5 (T.map qqk) false,.sl 5 (G.map sigD) false,.sl 5 (qze F) false,.sl 5 (T.map qqk) false,.sl 5 (G.map sigD) false]
def libS:Spec:=fun ys bx Kr _=>∃l,ys=[.d (.st l)]/\match Lg.libR l with
 |some (n,T,G)=>Kr (.tup [.d (libD (Lg.fnsOf n) T G),.d (.bool true)]) nix none
 |none=>∀F T G,Kr (.tup [.d (libD F T G),.d (.bool false)]) nix none
theorem parseRd {l:List UInt8}{ys:List LV}{bx:Bx}{Kr:LV->Bx->Ar1->Prop}{Kp:D->Bx->Prop}(hy:ys=[.d (.st l)])
  (h:∀(t:Tree) (a c:Int),((c != 0)=false/\Lg.rdT l=some t\/(c != 0)=true/\Lg.rdT l=none)->Kr (.tup [.d (qzr t),.d (.int .i64 a),.d (.int .i64 c)]) nix none):zke ys bx Kr Kp:=by
 refine⟨l,hy,?_⟩
 cases hp:Lg.zjy l with
 |error q=>
  by_cases hc:q.2=0
  ·exact h _ q.1 q.2 (.inl ⟨by simpa using hc,by rw[Lg.rdT,hp];exact if_pos hc⟩)
  ·exact h _ q.1 q.2 (.inr ⟨by simpa using hc,by rw[Lg.rdT,hp];exact if_neg hc⟩)
 |ok t=>exact h t 0 0 (.inl ⟨rfl,by rw[Lg.rdT,hp]⟩)
theorem typesU {n:Tree}{ys:List LV}{bx:Bx}{Kr:LV->Bx->Ar1->Prop}{Kp:D->Bx->Prop}(hn:Lg.Rd n)(hy:ys=[.d (qzr n)])
  (h:∀(a c:Int),((c != 0)=false/\Lg.qj9 [] n.kids=.ok (Lg.typesO n)\/(c != 0)=true/\∃e,Lg.qj9 [] n.kids=.error e)->Kr (.tup [.d (.sl 5 ((Lg.typesO n).map qqk) false),.d (.int .i64 a),.d (.int .i64 c)]) nix none):typesS ys bx Kr Kp/\rtypesS ys bx Kr Kp:=by
 have key:match Lg.qj9 [] n.kids with
  |.ok t=>Kr (.tup [.d (.sl 5 (t.map qqk) false),.d (.int .i64 0),.d (.int .i64 0)]) nix none
  |.error (a,c)=>Kr (.tup [.d (.sl 5 [] false),.d (.int .i64 a),.d (.int .i64 c)]) nix none:=by
  unfold Lg.typesO at h
  cases e:Lg.qj9 [] n.kids with
  |ok t=>rw[e]at h;exact h 0 0 (.inl ⟨rfl,rfl⟩)
  |error x=>obtain⟨a,c⟩:=x;rw[e]at h;exact h a c (.inr ⟨by have:=Lg.zwt e;simpa using this,_,rfl⟩)
 exact⟨⟨n,hy,hn.size,hn.tops,key⟩,⟨n,hy,hn.size,hn.tops,hn.sorts,key⟩⟩
theorem sigsU {n:Tree}{T:List Ty}{td:D}{ys:List LV}{bx:Bx}{Kr:LV->Bx->Ar1->Prop}{Kp:D->Bx->Prop}(hn:Lg.Rd n)(hy:ys=[.d (qzr n),.d td])(htd:tabD td T)(hT:T.length<=4096)
  (h:∀(a c:Int),((c != 0)=false/\Lg.zvc T n.kids []=.ok (Lg.sigsO T n)\/(c != 0)=true/\∃e,Lg.zvc T n.kids []=.error e)->Kr (.tup [.d (.sl 5 ((Lg.sigsO T n).map sigD) false),.d (.int .i64 a),.d (.int .i64 c)]) nix none):sigsS ys bx Kr Kp:=by
 refine⟨n,td,T,hy,htd,hT,hn.size,hn.fns,?_⟩;unfold Lg.sigsO at h
 cases e:Lg.zvc T n.kids []with
 |ok t=>rw[e]at h;exact h 0 0 (.inl ⟨rfl,rfl⟩)
 |error x=>obtain⟨a,c⟩:=x;rw[e]at h;exact h a c (.inr ⟨by have:=Lg.sigsR_ne e;simpa using this,_,rfl⟩)
theorem lib_OK:OK Tryz.prog 8 libS:=by
 refine fn_OK' qzu (E:=EV) (sp:=spL [(20,zke),(21,typesS),(22,sigsS),(23,zke),(24,rtypesS),(25,sigsS)]) qzt qzl (OKs.ok ⟨Parse_OK,⟨types_OK,⟨sigs_OK,⟨rparse_OK,⟨rtypes_OK,⟨rsigs_OK,trivial⟩⟩⟩⟩⟩⟩) func8 rfl ntmps8 results8 call8 [] none ?_;rintro ys bx Kr Kp ⟨l,rfl,hK⟩
 refine⟨[],rfl,trivial,by simp,?_⟩
 simp only[go_sem]
 refine parseRd rfl fun n a1 c1 h1=>?_
 simp only[go_sem]
 refine⟨fun hc=>?_,fun hc=>?_⟩
 · rcases h1 with⟨h,_⟩|⟨_,h⟩
   ·rw[hc]at h;cases h
   ·rw[Lg.libR,h]at hK;exact⟨_,.cons (.ag (.cons (.nil 5 false) (.cons (.nil 5 false) (.cons (.nil 5 false) (.cons (.nil 5 false) (.cons (.nil 5 false) (.cons (.nil 5 false) .nil))))))) (qzb (.rfl _)),hK [] [] []⟩
 have hrd:Lg.rdT l=some n:=by
  rcases h1 with⟨_,h⟩|⟨h,_⟩
  ·exact h
  ·rw[hc]at h;cases h
 have hn:=Lg.rd_ok hrd;rw[Lg.libR,hrd]at hK;simp only at hK
 have hTl:(Lg.typesO n).length<=4096:=by
  unfold Lg.typesO
  cases e:Lg.qj9 [] n.kids with
  |ok t=>have:=Lg.zqe e;have:=qj4 hn.size;simp at*;omega
  |error x=>simp
 refine(typesU hn (by rw[qzy]) fun a2 c2 h2=>?_).1;simp only[go_sem]
 refine sigsU hn (by rw[qzy]) (.inl ⟨_,rfl⟩) hTl fun a3 c3 h3=>?_
 simp only[go_sem]
 refine parseRd rfl fun n' a4 c4 h4=>?_
 have hn':n'=n:=by
  rcases h4 with⟨_,h⟩|⟨_,h⟩
  ·rw[hrd]at h;cases h;rfl
  ·rw[hrd]at h;cases h
 subst hn';simp only[go_sem];refine(typesU hn (by rw[qzy]) fun a5 c5 h5=>?_).2;simp only[go_sem]
 refine sigsU hn (by rw[qzy]) (.inl ⟨_,rfl⟩) hTl fun a6 c6 h6=>?_
 simp only[go_sem]
 generalize hT:Lg.typesO n'=T at h2 h3 h5 h6 hTl⊢
 generalize hG:Lg.sigsO T n'=G at h3 h6⊢
 refine qx4 [13] (T:={q:List Tree×Nat //q.1=Lg.fnsOf (.node 0 [] 0 0 (n'.kids.take q.2))/\q.2<=n'.kids.length})
  (fun q=>⟨122,put 2 (.bp 2 0) (put 9 (.d (.int .i64 c2)) (put 10 (.d (.sl 5 (G.map sigD) false)) (put 12 (.d (.int .i64 c3)) (put 13 (.ep (qzr n') 0) (put 19 (.d (.sl 5 (G.map sigD) false)) (put 22 (.bp 22 0) (put 72 (.d (.sl 5 (qze n'.kids) false)) (put 73 (.d (.int .i64 n'.kids.length)) (put 74 (.d (.int .i64 q.1.2)) nix))))))))),put 2 ⟨[.d (.imm (.slice none 0 0)),.d (.imm (.slice none 0 0)),.d (.imm (.slice none 0 0)),.d (.imm (.slice none 0 0)),.d (.imm (.slice none 0 0)),.d (.imm (.slice none 0 0))],30⟩ (put 22 ⟨[owLV 86 5 (qze q.1.1),.d (.sl 5 (T.map qqk) false),.d (.sl 5 (G.map sigD) false),owLV 96 5 (qze q.1.1),.d (.sl 5 (T.map qqk) false),.d (.sl 5 (G.map sigD) false)],30⟩ nix),owAr 86 5 92 (qze q.1.1) (owAr 96 5 100 (qze q.1.1) nix)⟩) (fun q=>n'.kids.length-q.1.2)
  ⟨([],0),rfl,by simp⟩ ?_ ?_
 ·simp only[qzy,go_sem];exact qzh (sP6 (sP4 qza)) (sP2 qza) qza
 rintro⟨⟨xs,i⟩,g1,g2⟩;have ha:xs=Lg.fnsOf (.node 0 [] 0 0 (n'.kids.take i)):=g1;have hi:i<=n'.kids.length:=g2;dsimp only;clear g1 g2
 have hla:xs.length<=i:=by
  rw[ha];unfold Lg.fnsOf;exact Nat.le_trans (List.length_filter_le ..) (by show(n'.kids.take i).length<=i;rw[List.length_take];omega)
 have hnl:=qj4 hn.size;obtain⟨l,hpl⟩:∃l,l=xs:=⟨_,rfl⟩
 rcases xs with _|⟨z,xs⟩
 all_goals
  have hla2:=hla;simp only[lB,lH]at hla2;simp only[qze,go_sem]
  refine⟨fun h=>?_,fun h=>?_⟩
  · have hlt:i<n'.kids.length:=by have:=lF h;omega
    have hkat:(qze n'.kids)[i]?=some (qzr n'.kids[i]):=treeDs_at' hlt
    have e1:Lg.fnsOf (.node 0 [] 0 0 (n'.kids.take (i+1)))=l++(if n'.kids[i].kind==6 then [n'.kids[i]]else []):=by
     rw[hpl.trans ha];exact zz5 (p:=fun x:Tree=>x.kind==6) hlt
    refine⟨by omega,by omega,?_⟩
    rw[lA,hkat]
    generalize n'.kids[i]=k at hkat e1⊢
    simp only[qzy,go_sem]
    refine⟨fun h6=>?_,fun h6=>?_⟩
    · rw[if_pos h6]at e1
      repeat' apply And.intro
      all_goals first
       |omega
       |skip
      all_goals
       refine qzm [] [] (wT 0 (wT 2 (wT 4 (wR 3 (wR 5 (wR 6 (wB 1 (wD 7 8 (wT 9 (wA 10 wZ))) 7 (wD 1 8 (wT 9 (wA 10 wZ)))))))))) ?_;have c0:(0<=(i:Int))=True:=eq_true (by omega);have c1':((i:Int)<n'.kids.length)=True:=eq_true (by omega);simp only[c0,c1',lA,hkat,qzy,go_sem]
       repeat' apply And.intro
       all_goals first
        |omega
        |exact⟨⟨(l++[k],i+1),e1.symm,hlt⟩,qzh (sP6 (sP4 qza)) (sP1 (qzd (by simp[put,owLV,hpl,qze,qzp,qzn]) qza)) (by show subm _ (owAr 86 5 92 (qze (l++[k])) (owAr 96 5 100 (qze (l++[k])) nix));rw[hpl];simp only[qzp,qze,List.nil_append,List.cons_append,owAr];exact sP2 qza),by show n'.kids.length-(i+1)<n'.kids.length-i;omega⟩
    · rw[h6,if_neg (by decide),List.append_nil]at e1
      refine⟨⟨by omega,by omega⟩,?_⟩
      exact⟨⟨(l,i+1),e1.symm,hlt⟩,qzh (sP6 (sP4 qza)) (sP1 (qzd (by simp[put,owLV,hpl,qze,qzp,qzn]) qza)) (by show subm _ (owAr 86 5 92 (qze l) (owAr 96 5 100 (qze l) nix));rw[hpl];exact fun _ _ h=>h),by show n'.kids.length-(i+1)<n'.kids.length-i;omega⟩
  · have hie:i=n'.kids.length:=by have:=lG h;omega
    rw[hie,List.take_length]at ha;have ha:l=Lg.fnsOf n':=hpl.trans ha;refine qzm [22] [] (wT 1 (wR 0 (wR 2 (wT 3 (wR 4 (wR 5 (wR 6 (wT 7 (wR 8 (wR 9 (wR 10 (wR 11 (wR 12 (wR 13 (wR 14 (wT 15 (wR 16 (wR 17 (wR 18 (wR 19 (wR 20 (wR 21 (wR 22 (wA 23 (wT 24 wZ))))))))))))))))))))))))) ?_;simp only[qze,lE,go_sem]
    have hbad:(∀F T G,Kr (.tup [.d (libD F T G),.d (.bool false)]) nix none)->∃es,D.les [libD l T G,.bool false] es/\Kr (one1 es) nix none:=fun h=>⟨_,.cons (.rfl _) (qzb (.rfl _)),h _ _ _⟩
    have hno:∀{e},Lg.qj9 [] n'.kids=.error e\/(∃t,Lg.qj9 [] n'.kids=.ok t/\Lg.zvc t n'.kids []=.error e)->∀F T G,Kr (.tup [.d (libD F T G),.d (.bool false)]) nix none:=fun h=>by
     rcases h with h|⟨t,h,h'⟩
     ·rw[h]at hK;exact hK
     ·rw[h]at hK;simp only at hK;rw[h']at hK;exact hK
    refine⟨fun d2=>⟨fun d3=>⟨fun d4=>?_,fun d4=>?_⟩,fun d3=>?_⟩,fun d2=>?_⟩
    · rcases h2 with⟨_,e2⟩|⟨e2,_⟩
      rotate_left
      ·rw[bne,d2]at e2;cases e2
      rcases h3 with⟨_,e3⟩|⟨e3,_⟩
      rotate_left
      ·rw[bne,d3]at e3;cases e3
      rw[e2]at hK;simp only at hK;rw[e3]at hK;simp only at hK;rw[<-ha,hpl]at hK;rw[d4]
      first
       |exact⟨_,.cons (.rfl _) (qzb (.rfl _)),hK⟩
       |exact⟨_,.cons (.ag (.cons (.nil 5 false) (.cons (.rfl _) (.cons (.rfl _) (.cons (.nil 5 false) (.cons (.rfl _) (.cons (.rfl _) .nil))))))) (qzb (.rfl _)),hK⟩
    · exfalso
      rcases h2 with⟨_,e2⟩|⟨e2,_⟩
      rotate_left
      ·rw[bne,d2]at e2;cases e2
      rcases h3 with⟨_,e3⟩|⟨e3,_⟩
      rotate_left
      ·rw[bne,d3]at e3;cases e3
      have:=(Lg.zvb hn.fns (by simp) e3).2
      rw[show(n'.kids.filter fun k=>k.kind==6)=l from ha.symm,hpl]at this
      rw[this]at d4;simp at d4
    · rcases h2 with⟨_,e2⟩|⟨e2,_⟩
      rotate_left
      ·rw[bne,d2]at e2;cases e2
      rcases h3 with⟨e3,_⟩|⟨_,e,e3⟩
      ·rw[bne,d3]at e3;cases e3
      have:=hno (.inr ⟨_,e2,e3⟩)
      first
       |exact⟨_,.cons (.rfl _) (qzb (.rfl _)),this (z::xs) _ _⟩
       |exact⟨_,.cons (.ag (.cons (.nil 5 false) (.cons (.rfl _) (.cons (.rfl _) (.cons (.nil 5 false) (.cons (.rfl _) (.cons (.rfl _) .nil))))))) (qzb (.rfl _)),this [] _ _⟩
    · rcases h2 with⟨e2,_⟩|⟨_,e,e2⟩
      ·rw[bne,d2]at e2;cases e2
      have:=hno (.inl e2)
      first
       |exact⟨_,.cons (.rfl _) (qzb (.rfl _)),this (z::xs) _ _⟩
       |exact⟨_,.cons (.ag (.cons (.nil 5 false) (.cons (.rfl _) (.cons (.rfl _) (.cons (.nil 5 false) (.cons (.rfl _) (.cons (.rfl _) .nil))))))) (qzb (.rfl _)),this [] _ _⟩
end Lx
namespace Lg
theorem qxo {α β:Type}{x:SR α}{f:α->SR β}{y:β}(h:sbnd x f=.ok y):∃a,x=.ok a/\f a=.ok y:=by
 cases x with
 |error e=>cases h
 |ok a=>exact⟨a,rfl,h⟩
theorem typR_ok {t:List Ty}{n:Tree}{x:Ty}(h:typR t n=.ok x):qkv t n.text<0/\(n.kids.filter zza).length<=8/\x.name=n.text/\
  zqq ((kid0 n).text==sOwn) (n.kids.filter zza) 0 (n.kids.filter zza)=.ok x.fields/\sortR t (kid0 n) (n.kids.filter zza) (n.kids.filter isFct)=.ok (x.sort,x.of)/\
  zq2 x.sort x.of (n.kids.filter zza) (n.kids.filter isFct)=.ok x.facts:=by
 unfold typR at h;split at h
 ·cases h
 split at h
 ·cases h
 rename_i h1 h2;obtain⟨fs,h3,h⟩:=qxo h;obtain⟨so,h4,h⟩:=qxo h;obtain⟨xs,h5,h⟩:=qxo h;simp only[Except.ok.injEq]at h;subst h
 exact⟨by omega,by omega,rfl,h3,h4,h5⟩
structure SoundAt (t:List Ty)(i:Nat)(x:Ty):Prop where
 find:qkv t x.name=i
 many:x.fields.length<=8
 size:∀(j:Nat) (h:j<x.fields.length),x.fields[j].2= -1\/(0<=x.fields[j].2/\x.sort=0/\∃h':x.fields[j].2.toNat<x.fields.length,x.fields[x.fields[j].2.toNat].2= -1)
 fact:∀g∈x.facts,(0<=g.1/\g.1<=x.fields.length)/\0<=g.2.1/\g.2.1<=x.fields.length
 num:x.sort=2\/x.sort=3->0<=x.of/\∃h:x.of.toNat<x.fields.length,x.fields[x.of.toNat].2= -1
 guar:x.sort=4->0<=x.of/\x.of<i/\∃h:x.of.toNat<t.length,t[x.of.toNat].sort=3
theorem zkn {own:Bool}{all:List Tree}:∀(ks:List Tree) (i:Nat) (fs:List (Bs×Int)),zqq own all i ks=.ok fs->
  fs.length=ks.length/\∀(j:Nat) (h:j<ks.length) (h':j<fs.length),fieldAt own all (i+j) ks[j]=.ok fs[j]
 |[],i,fs,h=>by
   simp only[zqq,Except.ok.injEq]at h;subst h
   exact⟨rfl,fun j h=>by simp at h⟩
 |k::ks,i,fs,h=>by
  rw[zqq]at h;obtain⟨y,h1,h⟩:=qxo h;obtain⟨ys,h2,h⟩:=qxo h;simp only[Except.ok.injEq]at h;subst h;obtain⟨h3,h4⟩:=zkn ks (i+1) ys h2
  refine⟨by simp[h3],fun j hj hj'=>?_⟩
  cases j with
  |zero=>exact h1
  |succ j=>
   have:=h4 j (by simpa using hj) (by simpa using hj')
   rw[show i+1+j=i+(j+1) by omega]at this
   simpa using this
theorem numb_hit {s:Bs}{l:List Tree}(h:0<=numb s l):∃h':(numb s l).toNat<l.length,l[(numb s l).toNat].kids.isEmpty=true:=by
 obtain⟨m,hm⟩:∃m:Nat,numb s l=m:=⟨(numb s l).toNat,by omega⟩
 have:=idxF_hit (fun n:Tree=>n.text==s&&n.kids.isEmpty) l 0 m (by unfold numb at hm;rw[hm];simp);obtain⟨h1,h2⟩:=this;rw[hm];simp only[lA];simp only[Bool.and_eq_true]at h2;exact⟨h1,h2.2⟩
theorem field_empty {own:Bool}{all:List Tree}{i:Nat}{f:Tree}{y:Bs×Int}(h:fieldAt own all i f=.ok y)(he:f.kids.isEmpty=true):y.2= -1:=by
 unfold fieldAt at h;split at h
 ·cases h
 · try rw[if_pos he]at h
   simp only[Except.ok.injEq]at h;rw[<-h]
theorem field_full {own:Bool}{all:List Tree}{i:Nat}{f:Tree}{y:Bs×Int}(h:fieldAt own all i f=.ok y):y.2= -1\/(own=true/\∃s,0<=numb s all/\y.2=numb s all):=by
 unfold fieldAt at h;split at h
 ·cases h
 split at h
 ·simp only[Except.ok.injEq]at h;rw[<-h];exact .inl rfl
 split at h
 ·rename_i hc;simp only[Except.ok.injEq]at h;simp only[Bool.and_eq_true,decide_eq_true_eq]at hc;rw[<-h];exact .inr ⟨hc.1,_,hc.2,rfl⟩
 ·cases h
theorem zz7 {k o:Int}{fl:List Tree}{n x:Tree}{a:Int}(h:zv9 k o fl n x=.ok a):0<=a/\a<=fl.length:=by
 unfold zv9 at h;split at h
 ·simp only[Except.ok.injEq]at h;omega
 split at h
 ·rename_i hc;simp only[Except.ok.injEq]at h;have:=qjx (fun n:Tree=>n.text==x.text&&n.kids.isEmpty) fl 0;unfold numb at hc h;omega
 ·cases h
theorem cmpF_range {w:Int->Int}{op:Bs}{a b k l m:Int}(ha:0<=a/\a<=m)(hb:0<=b/\b<=m):∀g∈cmpF w op a b k l,(0<=g.1/\g.1<=m)/\0<=g.2.1/\g.2.1<=m:=by
 intro g hg;unfold cmpF at hg;split at hg
 ·simp only[List.mem_singleton]at hg;subst hg;exact⟨ha,hb⟩
 split at hg
 ·simp only[List.mem_singleton]at hg;subst hg;exact⟨ha,hb⟩
 split at hg
 · simp only[List.mem_cons,List.not_mem_nil,or_false]at hg
   rcases hg with rfl|rfl
   ·exact⟨ha,hb⟩
   ·exact⟨hb,ha⟩
 ·simp at hg
theorem zq1 {k o:Int}{fl:List Tree}:∀(ns:List Tree) (xs:List (Int×Int×Int)),zq2 k o fl ns=.ok xs->∀g∈xs,(0<=g.1/\g.1<=fl.length)/\0<=g.2.1/\g.2.1<=fl.length
 |[],xs,h=>by
   simp only[zq2,Except.ok.injEq]at h;subst h;intro g hg;simp at hg
 |n::ns,xs,h=>by
  rw[zq2]at h;obtain⟨ys,h1,h⟩:=qxo h;obtain⟨zs,h2,h⟩:=qxo h;simp only[Except.ok.injEq]at h;subst h;intro g hg
  rcases List.mem_append.1 hg with hg|hg
  ·unfold factR at h1;obtain⟨a,ha,h1⟩:=qxo h1;obtain⟨b,hb,h1⟩:=qxo h1;simp only[Except.ok.injEq]at h1;subst h1;exact cmpF_range (zz7 ha) (zz7 hb) g hg
  ·exact zq1 ns zs h2 g hg
theorem sortR_ok {t:List Ty}{s:Tree}{fl fc:List Tree}{k o:Int}(h:sortR t s fl fc=.ok (k,o)):
  k=qxf s.text/\(k=2\/k=3->∃u,0<=numb u fl/\o=numb u fl)/\(k=4->∃u,0<=qkv t u/\o=qkv t u/\(t[(qkv t u).toNat]?).map Ty.sort=some 3):=by
 unfold sortR at h;split at h
 · split at h
   · rename_i h1 h2;simp only[Except.ok.injEq,Prod.mk.injEq]at h;obtain⟨rfl,rfl⟩:=h
     exact⟨rfl,fun _=>⟨_,h2,rfl⟩,fun e=>by omega⟩
   ·cases h
 split at h
 · split at h
   · split at h
     · rename_i h1 h2 h3 h4;simp only[Except.ok.injEq,Prod.mk.injEq]at h;obtain⟨rfl,rfl⟩:=h
       exact⟨h2.symm,fun e=>by omega,fun _=>⟨_,h3.1,rfl,h3.2⟩⟩
     ·cases h
   ·cases h
 · rename_i h1 h2;simp only[Except.ok.injEq,Prod.mk.injEq]at h;obtain⟨rfl,rfl⟩:=h
   exact⟨rfl,fun e=>absurd e h1,fun e=>absurd e h2⟩
theorem idxF_app {α:Type}(p:α->Bool)(b:List α):∀(a:List α) (i:Nat),0<=idxF p a i->idxF p (a++b) i=idxF p a i
 |[],i,h=>by unfold idxF at h;omega
 |x::xs,i,h=>by
  rw[List.cons_append,idxF,idxF];rw[idxF]at h;split at h
  ·rename_i hp;rw[if_pos hp,if_pos hp]
  ·rename_i hp;rw[if_neg hp,if_neg hp];exact idxF_app p b xs (i+1) h
theorem idxF_new {α:Type}(p:α->Bool)(x:α)(hx:p x=true):∀(a:List α) (i:Nat),idxF p a i<0->idxF p (a++[x]) i=i+a.length
 |[],i,h=>by simp[idxF,hx]
 |y::xs,i,h=>by
  rw[idxF]at h;rw[List.cons_append,idxF];split at h
  ·omega
  ·rename_i hp;rw[if_neg hp,idxF_new p x hx xs (i+1) h];simp;omega
theorem typR_sound {t:List Ty}{n:Tree}{x:Ty}(h:typR t n=.ok x):SoundAt (t++[x]) t.length x:=by
 obtain⟨h1,h2,h3,h4,h5,h6⟩:=typR_ok h;obtain⟨hl,hat⟩:=zkn _ _ _ h4;obtain⟨hs1,hs2,hs3⟩:=sortR_ok h5
 have hnum:∀u,0<=numb u (n.kids.filter zza)->∃h':(numb u (n.kids.filter zza)).toNat<x.fields.length,x.fields[(numb u (n.kids.filter zza)).toNat].2= -1:=by
  intro u hu;obtain⟨h7,h8⟩:=numb_hit hu
  have h9:(numb u (n.kids.filter zza)).toNat<x.fields.length:=by omega
  exact⟨h9,field_empty (hat _ h7 h9) h8⟩
 refine⟨?_,by omega,?_,?_,?_,?_⟩
 ·rw[h3];unfold qkv at h1⊢;rw[idxF_new _ x (by simp[h3]) t 0 h1];simp
 · intro j hj
   rcases field_full (hat j (by omega) hj)with h7|⟨h7,u,h8,h9⟩
   ·exact .inl h7
   · right
     refine⟨by rw[h9];exact h8,?_,?_⟩
     ·have e:(kid0 n).text=sOwn:=eq_of_beq h7;rw[hs1,e];rfl
     · obtain⟨h10,h11⟩:=hnum u h8
       have e:x.fields[j].2.toNat=(numb u (n.kids.filter zza)).toNat:=by rw[h9]
       exact⟨by rw[e];exact h10,by simp only[e];exact h11⟩
 ·have:=zq1 _ _ h6;rw[<-hl]at this;exact this
 · intro hk;obtain⟨u,h7,h8⟩:=hs2 hk;obtain⟨h9,h10⟩:=hnum u h7
   exact⟨by omega,by rw[h8];exact h9,by simp only[h8];exact h10⟩
 · intro hk;obtain⟨u,h7,h8,h9⟩:=hs3 hk;have hr:=qjx (fun x:Ty=>x.name==u) t 0
   have hlt:(qkv t u).toNat<t.length:=by unfold qkv at h7⊢;omega
   rw[lD hlt]at h9;simp only[Option.map_some,Option.some.injEq]at h9
   refine⟨by omega,by omega,by rw[h8,lC];omega,?_⟩
   simp only[h8];rw[List.getElem_append_left hlt];exact h9
theorem SoundAt.app {t:List Ty}{i:Nat}{x y:Ty}(h:SoundAt t i x):SoundAt (t++[y]) i x:=by
 refine⟨?_,h.many,h.size,h.fact,h.num,?_⟩
 ·have:=h.find;unfold qkv at this⊢;rw[idxF_app _ _ _ _ (by omega),this]
 · intro hk;obtain⟨h1,h2,h3,h4⟩:=h.guar hk
   exact⟨h1,h2,by rw[lC];omega,by rw[List.getElem_append_left h3];exact h4⟩
theorem qvr:∀(ns:List Tree) (acc t:List Ty),qj9 acc ns=.ok t->(∀(i:Nat) (h:i<acc.length),SoundAt acc i acc[i])->∀(i:Nat) (h:i<t.length),SoundAt t i t[i]
 |[],acc,t,h,ha=>by
   simp only[qj9,Except.ok.injEq]at h;subst h;exact ha
 |n::ns,acc,t,h,ha=>by
  unfold qj9 at h;split at h
  · obtain⟨x,h1,h⟩:=qxo h
    refine qvr ns _ t h fun i hi=>?_
    by_cases hlt:i<acc.length
    ·rw[List.getElem_append_left hlt];exact(ha i hlt).app
    · have e:i=acc.length:=by simp at hi;omega
      subst e
      have:(acc++[x])[acc.length]=x:=by simp
      rw[this];exact typR_sound h1
  ·exact qvr ns acc t h ha
def CB (g:Int×Int×Int):Prop:= -1000000000000000000<=g.2.2/\g.2.2<=1000000000000000000
theorem zjf {k o:Int}{fl:List Tree}:∀(ns:List Tree) (xs:List (Int×Int×Int)),(∀x∈ns,IsFc x)->zq2 k o fl ns=.ok xs->xs.length<=2*ns.length/\∀g∈xs,CB g
 |[],xs,_,h=>by cases h;exact⟨by simp,fun g hg=>by cases hg⟩
 |n::ns,xs,hn,h=>by
  rw[zq2]at h;obtain⟨ys,h1,h⟩:=qxo h;obtain⟨zs,h2,h⟩:=qxo h;cases h;obtain⟨h3,h4⟩:=zjf ns zs (fun x hx=>hn x (List.mem_cons_of_mem _ hx)) h2;unfold factR at h1;obtain⟨a,_,h1⟩:=qxo h1;obtain⟨b,_,h1⟩:=qxo h1;cases h1;obtain⟨ka,kb,hk,⟨b1,b2⟩,⟨b3,b4⟩⟩:=hn n (List.mem_cons_self ..)
  have e0:kid0 n=ka:=by unfold kid0;rw[hk];rfl
  have e1:kid1 n=kb:=by unfold kid1;rw[hk];rfl
  rw[e0,e1];have hl:=Lx.qwt id n.text a b ka.num kb.num
  refine⟨by rw[lC,lB];omega,fun g hg=>?_⟩
  rcases List.mem_append.1 hg with hg|hg
  · unfold cmpF at hg;split at hg
    ·rw[List.mem_singleton.1 hg];exact⟨by show -1000000000000000000<=kb.num-ka.num-1;omega,by show kb.num-ka.num-1<=1000000000000000000;omega⟩
    · split at hg
      ·rw[List.mem_singleton.1 hg];exact⟨by show -1000000000000000000<=kb.num-ka.num;omega,by show kb.num-ka.num<=1000000000000000000;omega⟩
      · split at hg
        · rcases List.mem_cons.1 hg with rfl|hg
          ·exact⟨by show -1000000000000000000<=kb.num-ka.num;omega,by show kb.num-ka.num<=1000000000000000000;omega⟩
          ·rw[List.mem_singleton.1 hg];exact⟨by show -1000000000000000000<=ka.num-kb.num;omega,by show ka.num-kb.num<=1000000000000000000;omega⟩
        ·cases hg
  ·exact h4 g hg
theorem qw3:∀(ns:List Tree) (acc t:List Ty),(∀k∈ns,k.kids.length<=4096)->(∀k∈ns,k.kind=1->IsTy k/\0<=qxf (kid0 k).text)->(∀x∈acc,x.facts.length<=8192/\(∀g∈x.facts,CB g)/\0<=x.sort/\x.sort<=4)->qj9 acc ns=.ok t->∀x∈t,x.facts.length<=8192/\(∀g∈x.facts,CB g)/\0<=x.sort/\x.sort<=4
 |[],acc,t,_,_,ha,h=>by cases h;exact ha
 |n::ns,acc,t,hn,hk,ha,h=>by
  unfold qj9 at h
  have hn2:∀k∈ns,k.kids.length<=4096:=fun k hk=>hn k (List.mem_cons_of_mem _ hk)
  have hk2:∀k∈ns,k.kind=1->IsTy k/\0<=qxf (kid0 k).text:=fun k h=>hk k (List.mem_cons_of_mem _ h)
  split at h
  · rename_i h1k;obtain⟨x,h1,h⟩:=qxo h;refine qw3 ns _ t hn2 hk2 (fun y hy=>?_) h
    rcases List.mem_append.1 hy with hy|hy
    ·exact ha y hy
    · rw[List.mem_singleton.1 hy];obtain⟨⟨_,hfc⟩,hsx⟩:=hk n (List.mem_cons_self ..) h1k;obtain⟨_,_,_,_,h5,h6⟩:=typR_ok h1
      obtain⟨h7,h8⟩:=zjf _ _ (fun z hz=>by
       have:=List.mem_filter.1 hz
       exact hfc z this.1 (by have:=this.2;unfold isFct at this;exact eq_of_beq this)) h6
      have h9:(n.kids.filter isFct).length<=n.kids.length:=List.length_filter_le ..;have h10:=hn n (List.mem_cons_self ..);obtain⟨h11,_⟩:=sortR_ok h5;have h12:=qjx (fun y:Bs=>y==(kid0 n).text) sorts 0;have h13:qxf (kid0 n).text=idxF (fun y:Bs=>y==(kid0 n).text) sorts 0:=rfl;rw[<-h13]at h12
      rw[show(((0:Nat):Int)+sorts.length)=5 from rfl]at h12
      exact⟨by omega,h8,by omega,by omega⟩
  ·exact qw3 ns acc t hn2 hk2 ha h
structure LibOk (T:List Ty)(G:List Sg):Prop where
 types:∀t∈T,Lx.TyOk T t
 sound:∀(i:Nat) (h:i<T.length),SoundAt T i T[i]
 tl:T.length<=4096
 gl:G.length<=4096
 sigs:∀g∈G,(∀p∈g.params,PmOk T.length p)/\g.params.length<=8
theorem lib_ok {l:Bs}{n:Tree}{T:List Ty}{G:List Sg}(h:libR l=some (n,T,G)):LibOk T G:=by
 unfold libR at h
 cases e:rdT l with
 |none=>rw[e]at h;cases h
 |some m=>
  rw[e]at h;simp only at h;have hm:=rd_ok e
  cases e2:qj9 [] m.kids with
  |error x=>rw[e2]at h;cases h
  |ok t=>
   rw[e2]at h;simp only at h
   cases e3:zvc t m.kids []with
   |error x=>rw[e3]at h;cases h
   |ok g=>
    rw[e3]at h;cases h
    have hkl:∀k∈n.kids,k.kids.length<=4096:=fun k hk=>by
     obtain⟨i,hi,rfl⟩:=List.getElem_of_mem hk;exact Lx.qj4 (Lx.kid_le hm.size hi)
    have hnl:=Lx.qj4 hm.size;have hs:=qvr _ _ _ e2 (by simp);have hmo:=qw3 _ _ _ hkl (fun k hk h1=>⟨hm.tops k hk h1,hm.sorts k hk h1⟩) (by simp) e2;have htl:=zqe e2;obtain⟨hg1,hg2⟩:=zvb hm.fns (by simp) e3;have hgl:(n.kids.filter fun k=>k.kind==6).length<=n.kids.length:=List.length_filter_le ..
    refine⟨fun x hx=>?_,hs,by simp at htl;omega,by simp at hg2;omega,hg1⟩
    obtain⟨i,hi,rfl⟩:=List.getElem_of_mem hx;have hx1:=hs i hi;obtain⟨h1,h2,h3⟩:=hmo _ hx
    refine⟨hx1.many,by omega,fun f hf=>?_,fun g hg=>?_,fun hk=>?_,fun hk=>?_,h3⟩
    · obtain⟨j,hj,rfl⟩:=List.getElem_of_mem hf
      rcases hx1.size j hj with h|⟨h4,_,h5,_⟩
      ·omega
      ·omega
    ·obtain⟨⟨a1,a2⟩,a3,a4⟩:=hx1.fact g hg;exact⟨a1,a2,a3,a4,h2 g hg⟩
    · obtain⟨a1,a2,_⟩:=hx1.num hk
      exact⟨a1,by omega⟩
    · obtain⟨a1,a2,a3,a4⟩:=hx1.guar hk
      exact⟨a1,by omega,fun u hu=>by rw[lD a3]at hu;cases hu;exact a4⟩
end Lg
namespace Lx
open Go
open Lg (Tok Tree Ty Par Sg Sym Chk Hp)
open Go.Proofs (Tryz.prog)
open Go.Proofs.Tryz
section
variable (g:Sg)
@[go_sem ↓]theorem sig_lcs:D.lcs (sigD g)=[.d (.st g.name),.d (.sl 3 (g.params.map parD) false),.d (.st g.ret.name),.d (.int .i64 g.ret.mode),.d (.int .i64 g.ret.typ)]:=(rfl)
@[go_sem ↓]theorem sig_cs:D.cs (sigD g)=[.st g.name,.sl 3 (g.params.map parD) false,.st g.ret.name,.int .i64 g.ret.mode,.int .i64 g.ret.typ]:=(rfl)
@[go_sem ↓]theorem sig_flat:D.flat (sigD g)=true:=(rfl)
@[go_sem ↓]theorem sig_lcells:qqz (.d (sigD g))=some [.d (.st g.name),.d (.sl 3 (g.params.map parD) false),.d (.st g.ret.name),.d (.int .i64 g.ret.mode),.d (.int .i64 g.ret.typ)]:=(rfl)
@[go_sem ↓]theorem sig_pcs:pcs (.d (sigD g))=some [.d (.st g.name),.d (.sl 3 (g.params.map parD) false),.d (.st g.ret.name),.d (.int .i64 g.ret.mode),.d (.int .i64 g.ret.typ)]:=(rfl)
@[go_sem ↓]theorem sig_one:one (.d (sigD g))=false:=(rfl)
end
theorem sig_ag (g:Sg):D.ag [.st g.name,.sl 3 (g.params.map parD) false,.st g.ret.name,.int .i64 g.ret.mode,.int .i64 g.ret.typ]=sigD g:=rfl
abbrev wxt:List UInt8:=[116,121,112,101,32,118,101,99,32,111,119,110,32,123,32,108,101,110,44,32,99,97,112,44,32,100,91,99,97,112,93,32,125,32,119,104,101,114,101,32,48,32,60,61,32,108,101,110,44,32,108,101,110,32,60,61,32,99,97,112,59,32,102,110,32,103,101,116,40,118,58,32,38,118,101,99,44,32,105,58,32,105,110,116,41,32,45,62,32,105,110,116,32,123,32,125]
def wlib:Tree×List Ty×List Sg:=match Lg.libR wxt with
 |some x=>x
 |none=>(Lg.noTree,[],[])
theorem wlib_eq:Lg.libR wxt=some wlib:=by kernel_rfl
def wsig:Sg:=wlib.2.2.headD ⟨[],[],Lg.noPar⟩
theorem wsig_eq:wlib.2.2=[wsig]:=by kernel_rfl
def wsta:Lg.Sta:=match Lg.beginR wsig wlib.2.1 with
 |.ok s=>s
 |.error _=>⟨⟨[],0,[]⟩,[],[],[]⟩
theorem wsta_eq:Lg.beginR wsig wlib.2.1=.ok wsta:=by kernel_rfl
theorem wvars:wsta.vars=[([118],⟨2,0,0,0⟩),([105],⟨1,3,0,0⟩)]:=by kernel_rfl
theorem wchks:wsta.heap.chunks=[⟨3,0, -1,true,false,false,Lg.zSym,[⟨1,1,0,0⟩,⟨1,2,0,0⟩,⟨2,0,0,1⟩]⟩,⟨8, -1, -1,true,false,true,⟨1,2,0,0⟩,[]⟩]:=by kernel_rfl
def wakeS:Spec:=fun ys bx Kr _=>ys=[]/\Kr (.d (.bool true)) nix none
theorem wake_OK:OKS Tryz.prog 9 wakeS:=by
 refine qv8 qzu (E:=EH) (sp:=spL [(8,libS),(10,.c beginS)]) qzt qzl (OKs.ok ⟨lib_OK,⟨zwm,trivial⟩⟩) func9 rfl ntmps9 results9 call9 [] ?_;rintro ys bx Kr Kp ⟨rfl,hK⟩ hN
 refine⟨trivial,by simp,?_⟩
 simp only[hN.fgt,go_sem];refine⟨wxt,rfl,?_⟩;have hl:=wlib_eq;have hG:wlib.2.2=[wsig]:=wsig_eq;have hs:=wsta_eq;have hv:=wvars;have hc:=wchks
 revert hl hG hs
 generalize wlib=w
 intro hl hG hs;obtain⟨n0,T0,G0⟩:=w;have hok:=Lg.lib_ok hl;simp only at hG hs;subst hG;obtain⟨hg1,hg2⟩:=hok.sigs wsig (by simp);rw[hl];simp only[hN.fgt,libD,List.map_cons,List.map_nil,go_sem];refine qzm [1] [] (wT 0 (wT 4 (wR 1 (wR 2 (wR 3 (wR 5 (wB 6 (wT 7 (wR 8 (wR 9 (wD 10 11 (wT 12 wZ))))) 10 (wA 6 (wT 7 (wR 8 (wR 9 (wA 11 (wT 12 wZ))))))))))))) ?_;simp only[hN.fgt,sig_ag,go_sem];refine⟨?_,?_⟩
 all_goals
  refine⟨wsig,_,T0,rfl,.inl ⟨_,rfl⟩,hok.types,by omega,fun p hp h1=>(hg1 p hp).2.2 h1,?_⟩
  rw[hs];intro B h F vs bs cs hS;obtain⟨va,fv,us,hA,_⟩:=hS.heap;have hbox:=hA.box;have hvs:=hS.vars;have hck:=hA.chunks;rw[hv]at hvs;rw[hc]at hck
  obtain⟨b,c,rfl,hc1,hb⟩:∃b c,vs=slD b 2 c/\2<=c/\B (b+1000000)=some (arrB [varD ([118],⟨2,0,0,0⟩),varD ([105],⟨1,3,0,0⟩)] 5 55 c):=by
   rcases hvs with⟨h,_⟩|⟨_,b,c,h1,h2,h3⟩
   ·cases h
   ·exact⟨b,c,h1,h2,h3⟩
  obtain⟨A,k,rfl,hk1,hA1⟩:∃A k,va=slD A 2 k/\2<=k/\B (A+1000000)=some (chkB [⟨3,0, -1,true,false,false,Lg.zSym,[⟨1,1,0,0⟩,⟨1,2,0,0⟩,⟨2,0,0,1⟩]⟩,⟨8, -1, -1,true,false,true,⟨1,2,0,0⟩,[]⟩] us k):=by
   rcases hck with⟨h,_⟩|⟨_,b,c,h1,h2,h3⟩
   ·cases h
   ·exact⟨b,c,h1,h2,h3⟩
  have hul:us.length=2:=by rw[hA.len,hc];rfl
  obtain⟨u0,u1,rfl⟩:∃u0 u1,us=[u0,u1]:=by
   match us,hul with
   |[a,b],_=>exact⟨a,b,rfl⟩
  clear hvs hck hA hul;obtain⟨r1,hb⟩:∃r,B (b+1000000)=some ⟨[.d (.st [118]),.d (.int .i64 2),.d (.int .i64 0),.d (.int .i64 0),.d (.int .i64 0),.d (.st [105]),.d (.int .i64 1),.d (.int .i64 3),.d (.int .i64 0),.d (.int .i64 0)]++r,55⟩:=⟨_,hb⟩;obtain⟨r2,hA1⟩:∃r,B (A+1000000)=some ⟨[.d (.int .i64 3),.d (.int .i64 0),.d (.int .i64 (-1)),.d (.bool true),.d (.bool false),.d (.bool false),.d (.int .i64 0),.d (.int .i64 0),.d (.int .i64 0),.d (.int .i64 0),.d u0,.d (.int .i64 8),.d (.int .i64 (-1)),.d (.int .i64 (-1)),.d (.bool true),.d (.bool false),.d (.bool true),.d (.int .i64 1),.d (.int .i64 2),.d (.int .i64 0),.d (.int .i64 0),.d u1]++r,62⟩:=⟨_,hA1⟩;unfold Lx.hbox at hbox;simp only[startD,hS.blocks.one,hS.counts.one,hN.fgt,hN.fzb,hbox,hb,hA1,go_sem];refine qz8 [] ?_;simp only[hN.fgt,hN.fz,go_sem];exact⟨_,nix,qzb (.rfl _),qza,hK⟩
end Lx
namespace Lg
def Pre (h h':Hp):Prop:=∀(k:Nat) (c:Chk),h.chunks[k]?=some c->h'.chunks[k]?=some c
theorem Pre.rfl {h:Hp}:Pre h h:=fun _ _ e=>e
theorem Pre.trans {a b c:Hp}(h1:Pre a b)(h2:Pre b c):Pre a c:=fun k x e=>h2 k x (h1 k x e)
theorem Pre.of_eq {a b:Hp}(h:b.chunks=a.chunks):Pre a b:=fun k x e=>by rw[h];exact e
theorem zqf (h:Hp)(c:Chk):Pre h (h.put c).2:=fun k x e=>by
 have:=(List.getElem?_eq_some_iff.1 e).1
 show(h.chunks++[c])[k]?=some x
 rw[List.getElem?_append_left this];exact e
theorem zka (h:Hp)(c:Chk):(h.put c).2.chunks[h.chunks.length]?=some c:=by
 show(h.chunks++[c])[h.chunks.length]?=some c
 simp
theorem qwf {out:Int}:∀{fs:List (Bs×Int)} {i:Nat} {h:Hp} {q:List Sym×Hp},qk0 out i fs h=.ok q->q.1.length=fs.length/\∀(j:Nat) (f:Bs×Int),fs[j]?=some f->∃s,q.1[j]?=some s/\if f.2<0/\¬((i+j:Nat):Int)=out then s.kind=1 else s=zSym
 |[],i,h,q,e=>by cases e;exact⟨rfl,fun j f hf=>by cases hf⟩
 |f::fs,i,h,q,e=>by
  unfold qk0 at e;split at e
  · rename_i hc;obtain⟨p,h1,h2⟩:=qqa e;obtain⟨r,h3,h4⟩:=qqa h2;cases h4;obtain⟨h5,h6⟩:=qwf h3
    refine⟨by simp[h5],fun j g hg=>?_⟩
    cases j with
    |zero=>
     cases hg
     exact⟨p.1,rfl,by rw[if_pos (by simpa using hc),qjb h1];rfl⟩
    |succ j=>
     have:=h6 j g (by simpa using hg)
     rw[show i+1+j=i+(j+1) by omega]at this
     simpa using this
  · rename_i hc;obtain⟨r,h3,h4⟩:=qqa e;cases h4;obtain⟨h5,h6⟩:=qwf (q:=r) h3
    refine⟨by simp[h5],fun j g hg=>?_⟩
    cases j with
    |zero=>
     cases hg
     exact⟨zSym,rfl,by rw[if_neg (by simpa using hc)]⟩
    |succ j=>
     have:=h6 j g (by simpa using hg)
     rw[show i+1+j=i+(j+1) by omega]at this
     simpa using this
theorem zvf {h:Hp}{b i k:Nat}{s:Sym}(hk:k≠b):(setCell h b i s).chunks[k]?=h.chunks[k]?:=by
 unfold setCell;split
 · show(h.chunks.set b _)[k]?=_
   rw[List.getElem?_set_ne (Ne.symm hk)]
 ·rfl
theorem qvx {h:Hp}{b i:Nat}{s:Sym}{c:Chk}(hc:h.chunks[b]?=some c):(setCell h b i s).chunks[b]?=some {c with cells:=c.cells.set i s}:=by
 unfold setCell;rw[hc]
 show(h.chunks.set b _)[b]?=_
 rw[List.getElem?_set_self (List.getElem?_eq_some_iff.1 hc).1]
theorem qwx {b:Nat}{kind:Int}:∀{fs:List (Bs×Int)} {i:Nat} {h h':Hp} {c:Chk},qje b kind i fs h=.ok h'->h.chunks[b]?=some c->(∀(k:Nat) (x:Chk),k≠b->h.chunks[k]?=some x->h'.chunks[k]?=some x)/\∃cs,cs.length=c.cells.length/\h'.chunks[b]?=some {c with cells:=cs}
 |[],i,h,h',c,e,hc=>by cases e;exact⟨fun _ _ _ h=>h,c.cells,rfl,hc⟩
 |f::fs,i,h,h',c,e,hc=>by
  unfold qje at e;split at e
  ·exact qwx e hc
  · obtain⟨a,h1,h2⟩:=qqa e;have ha:=qq6 h1;have hb:=(List.getElem?_eq_some_iff.1 hc).1;have hc1:(h.put ⟨kind, -1, -1,true,false,true,qxb h b f.2,[]⟩).2.chunks[b]?=some c:=zqf _ _ _ _ hc
    have hca:a.chunks[b]?=some {c with cells:=c.cells.set i (h.put ⟨kind, -1, -1,true,false,true,qxb h b f.2,[]⟩).1}:=by rw[ha];exact qvx hc1
    obtain⟨h3,cs,h4,h5⟩:=qwx h2 hca
    refine⟨fun k x hk hx=>h3 k x hk ?_,cs,by rw[h4];simp,h5⟩
    rw[ha]
    show(setCell _ b i _).chunks[k]?=some x
    rw[zvf hk];exact zqf _ _ _ _ hx
def zq7 (T:List Ty)(p:Par):Int:=if(tyAt T p.typ).sort=4 then(tyAt T p.typ).of else p.typ
def tyOf (T:List Ty)(p:Par):Ty:=tyAt T (zq7 T p)
structure BlkOf (T:List Ty)(p:Par)(h h':Hp)(v ct:Sym)(c:Chk):Prop where
 pre:Pre h h'
 ptr:v=⟨2,0,0,h.chunks.length⟩
 at_:h'.chunks[h.chunks.length]?=some c
 len:c.cells.length=(tyOf T p).fields.length
 live:c.live=true
 arr:c.array=false
 cnt:ct.kind=1↔(tyOf T p).sort=2
theorem zzl {T:List Ty}{i:Int}(h:0<=i/\i<T.length):tyAt T i∈T/\T[i.toNat]?=some (tyAt T i):=by
 have hl:i.toNat<T.length:=by omega
 have:T[i.toNat]?=some T[i.toNat]:=lD hl;unfold tyAt;rw[this];exact⟨List.getElem_mem hl,rfl⟩
theorem zky {T:List Ty}{G:List Sg}(hT:LibOk T G){p:Par}(hp:0<=p.typ/\p.typ<T.length){h:Hp}{r:(Sym×Sym)×Hp}(e:zkz p T h=.ok r):∃c,BlkOf T p h r.2 r.1.1 r.1.2 c:=by
 have ht:=zzl hp;have hso:=(hT.types _ ht.1)
 have hof4:(tyAt T p.typ).sort=4->0<=(tyAt T p.typ).of/\(tyAt T p.typ).of<T.length/\(tyAt T (tyAt T p.typ).of).sort=3:=fun h4=>by
  obtain⟨h1,h2,h3⟩:=hso.of4 h4;exact⟨h1,h2,h3 _ (zzl ⟨h1,h2⟩).2⟩
 rw[Lx.blockR_eq rfl rfl]at e
 have hu:(if(tyAt T p.typ).sort=4 then tyAt T (tyAt T p.typ).of else tyAt T p.typ)=tyOf T p:=by
  unfold tyOf zq7;split<;>rfl
 rw[hu]at e
 have hsort:(tyOf T p).sort=2↔qx9 p.mode (tyAt T p.typ).sort=5:=by
  unfold tyOf zq7 qx9;by_cases h4:(tyAt T p.typ).sort=4
  ·rw[if_pos h4,(hof4 h4).2.2,h4];simp
  · rw[if_neg h4];have:=hso.so;split
    · rename_i h0;rw[h0];constructor
      ·intro h;omega
      ·intro h;split at h<;>(try split at h)<;>(try split at h)<;>omega
    · split
      · rename_i h1;rw[h1];constructor
        ·intro h;omega
        ·intro h;split at h<;>omega
      · split
        ·rename_i h2;simp[h2]
        · rename_i h2;constructor
          ·intro h;exact absurd h h2
          ·intro h;omega
 unfold restR at e;split at e
 · rename_i h6;cases e
   refine⟨_,zqf _ _,rfl,zka _ _,by simp,rfl,rfl,?_⟩
   refine⟨fun h=>absurd (show(0:Int)=1 from h) (by decide),fun h=>?_⟩
   have:=hsort.1 h;rw[h6.1]at this;exact absurd this (by decide)
 · obtain⟨c,h1,e⟩:=qqa e;obtain⟨h2,h3,e⟩:=qqa e;obtain⟨h4,h5,e⟩:=qqa e;obtain⟨h6,h7,e⟩:=qqa e;cases e
   have hc:h4.chunks=h.chunks:=by
    have h8:h2.chunks=h.chunks:=by rw[qq6 h3];exact qx6 h1
    split at h5
    ·rw[qq6 h5];exact h8
    ·cases h5;exact h8
   have hl:=congrArg List.length hc;obtain⟨h8,h9⟩:=qwf h1;obtain⟨h10,cs,h11,h12⟩:=qwx h7 (zka h4 _);rw[hl]at h12
   refine⟨_,fun k x hx=>?_,?_,h12,h11.trans h8,rfl,rfl,?_⟩
   ·have hk:=(List.getElem?_eq_some_iff.1 hx).1;refine h10 k x (by omega) (zqf _ _ _ _ ?_);rw[hc];exact hx
   · show(⟨2,0,0,h4.chunks.length⟩:Sym)=_
     rw[hl]
   · show(if qx9 p.mode (tyAt T p.typ).sort=5 then(c.1[(if(tyOf T p).sort=2\/(tyOf T p).sort=3 then(tyOf T p).of else -1).toNat]?.getD zSym)else zSym).kind=1↔_
     by_cases h5':qx9 p.mode (tyAt T p.typ).sort=5
     · rw[if_pos h5'];have h2s:=hsort.2 h5'
       refine⟨fun _=>h2s,fun _=>?_⟩
       have hn4:¬(tyAt T p.typ).sort=4:=fun h4=>by
        have:(tyOf T p).sort=3:=by unfold tyOf zq7;rw[if_pos h4];exact(hof4 h4).2.2
        omega
       have htp:tyOf T p=tyAt T p.typ:=by unfold tyOf zq7;rw[if_neg hn4]
       have hi:p.typ.toNat<T.length:=by omega
       have hge:T[p.typ.toNat]=tyAt T p.typ:=by
        have:=ht.2;rw[lD hi]at this;exact Option.some.inj this
       have hs:=hT.sound p.typ.toNat hi;rw[hge,<-htp]at hs;obtain⟨o1,o2,o3⟩:=hs.num (.inl h2s);have hat:(if(tyOf T p).sort=2\/(tyOf T p).sort=3 then(tyOf T p).of else -1)=(tyOf T p).of:=if_pos (.inl h2s);rw[hat];obtain⟨s,q1,q2⟩:=h9 (tyOf T p).of.toNat _ (lD o2)
       rw[o3,if_pos ⟨by decide,by
        have:((tyAt T p.typ).sort==4)=false:=by simpa using hn4
        rw[this];simp;omega⟩]at q2
       rw[q1];exact q2
     · rw[if_neg h5']
       exact⟨fun h=>absurd (show(0:Int)=1 from h) (by decide),fun h=>absurd (hsort.1 h) h5'⟩
structure ParOf (T:List Ty)(h:Hp)(p:Par)(v:Bs×Sym)(b:Int)(ct:Sym):Prop where
 name:v.1=p.name
 int:p.mode=1->v.2.kind=1/\b= -1
 blk:p.mode≠1->v.2.kind=2/\0<=b/\∃c,h.chunks[b.toNat]?=some c/\c.cells.length=(tyOf T p).fields.length/\c.live=true/\c.array=false/\(ct.kind=1↔(tyOf T p).sort=2)
theorem ParOf.mono {T:List Ty}{h h':Hp}{p:Par}{v:Bs×Sym}{b:Int}{ct:Sym}(hP:ParOf T h p v b ct)(hp:Pre h h'):ParOf T h' p v b ct:=
 ⟨hP.name,hP.int,fun hm=>let⟨h1,h2,c,h3,h4⟩:=hP.blk hm;⟨h1,h2,c,hp _ _ h3,h4⟩⟩
theorem zjp {T:List Ty}{G:List Sg}(hT:LibOk T G):∀{ps done:List Par} {s s':Sta},(∀p∈ps,PmOk T.length p)->(s.vars.length=done.length/\s.blocks.length=done.length/\s.counts.length=done.length)->(∀(i:Nat) (p:Par) (v:Bs×Sym) (b:Int) (ct:Sym),done[i]?=some p->s.vars[i]?=some v->s.blocks[i]?=some b->s.counts[i]?=some ct->ParOf T s.heap p v b ct)->qkk T ps s=.ok s'->
  (s'.vars.length=(done++ps).length/\s'.blocks.length=(done++ps).length/\s'.counts.length=(done++ps).length)/\∀(i:Nat) (p:Par) (v:Bs×Sym) (b:Int) (ct:Sym),(done++ps)[i]?=some p->s'.vars[i]?=some v->s'.blocks[i]?=some b->s'.counts[i]?=some ct->ParOf T s'.heap p v b ct
 |[],done,s,s',_,hl,hd,e=>by cases e;rw[List.append_nil];exact⟨hl,hd⟩
 |p::ps,done,s,s',hp,⟨l1,l2,l3⟩,hd,e=>by
  unfold qkk at e;obtain⟨s1,h1,e⟩:=qqa e
  rw[show done++p::ps=(done++[p])++ps by simp]
  have snoc:∀{α:Type} {l:List α} {x y:α} {i:Nat},(l++[x])[i]?=some y->i<l.length/\l[i]?=some y\/i=l.length/\y=x:=by
   intro α l x y i h;by_cases hi:i<l.length
   ·rw[List.getElem?_append_left hi]at h;exact .inl ⟨hi,h⟩
   · rw[List.getElem?_append_right (by omega)]at h
     have:i-l.length=0:=by
      have:=(List.getElem?_eq_some_iff.1 h).1;simp at this;omega
     rw[this]at h;simp at h
     exact .inr ⟨by omega,h.symm⟩
  have hpp:=hp p (List.mem_cons_self ..)
  have key:∃H v b ct,s1=⟨H,s.vars++[(p.name,v)],s.blocks++[b],s.counts++[ct]⟩/\Pre s.heap H/\ParOf T H p (p.name,v) b ct:=by
   unfold paramR at h1;split at h1
   · rename_i hm;obtain⟨q,h2,h3⟩:=qqa h1;cases h3;have h4:=qjb h2
     refine⟨_,_,_,_,rfl,?_,⟨rfl,fun _=>⟨by rw[h4];rfl,rfl⟩,fun h=>absurd hm h⟩⟩
     rw[h4];exact .of_eq rfl
   · rename_i hm;obtain⟨q,h2,h3⟩:=qqa h1;cases h3;obtain⟨c,hc⟩:=zky hT (hpp.2.2 hm) h2
     refine⟨_,_,_,_,rfl,hc.pre,⟨rfl,fun h=>absurd h hm,fun _=>⟨by rw[hc.ptr],by rw[hc.ptr];exact Int.natCast_nonneg _,c,by rw[hc.ptr];exact hc.at_,hc.len,hc.live,hc.arr,hc.cnt⟩⟩⟩
  obtain⟨H,v,b,ct,rfl,hpre,hpar⟩:=key
  refine zjp hT (fun q hq=>hp q (List.mem_cons_of_mem _ hq)) ⟨by simp[l1],by simp[l2],by simp[l3]⟩ (fun i q x y z hq hx hy hz=>?_) e
  rcases snoc hq with⟨hi,hq⟩|⟨hi,rfl⟩
  · rcases snoc hx with⟨_,hx⟩|⟨hx,_⟩<;>rcases snoc hy with⟨_,hy⟩|⟨hy,_⟩<;>rcases snoc hz with⟨_,hz⟩|⟨hz,_⟩<;>first|omega|skip
    exact(hd i q x y z hq hx hy hz).mono hpre
  ·rcases snoc hx with⟨hx,_⟩|⟨_,rfl⟩<;>rcases snoc hy with⟨hy,_⟩|⟨_,rfl⟩<;>rcases snoc hz with⟨hz,_⟩|⟨_,rfl⟩<;>first|omega|exact hpar
theorem beginR_par {T:List Ty}{G:List Sg}(hT:LibOk T G){g:Sg}(hg:∀p∈g.params,PmOk T.length p){s:Sta}(e:beginR g T=.ok s):
  (s.vars.length=g.params.length/\s.blocks.length=g.params.length/\s.counts.length=g.params.length)/\∀(i:Nat) (p:Par) (v:Bs×Sym) (b:Int) (ct:Sym),g.params[i]?=some p->s.vars[i]?=some v->s.blocks[i]?=some b->s.counts[i]?=some ct->ParOf T s.heap p v b ct:=by
 have:=zjp hT (done:=[]) hg ⟨rfl,rfl,rfl⟩ (by intro i p v b ct h;simp at h) e;simpa using this
theorem qww {h:Hp}{fs:List (Int×Int×Int)}{e:Int}(he:h.assume fs=.error e):e=22:=by
 unfold Hp.assume at he;split at he
 ·cases he;rfl
 ·cases he
theorem qxn {α β:Type}{x:HR α}{f:α->HR β}{e:Int}(h:hbnd x f=.error e):x=.error e\/∃a,x=.ok a/\f a=.error e:=by
 cases x with
 |error y=>cases h;exact .inl rfl
 |ok a=>exact .inr ⟨a,rfl,h⟩
theorem fresh_err {h:Hp}{e:Int}(he:h.fresh=.error e):e=22:=by
 unfold Hp.fresh at he;split at he
 ·cases he;rfl
 · rcases qxn he with h|⟨a,_,h⟩
   ·exact qww h
   ·cases h
theorem zqs {out:Int}{e:Int}:∀{fs:List (Bs×Int)} {i:Nat} {h:Hp},qk0 out i fs h=.error e->e=22
 |[],i,h,he=>by cases he
 |f::fs,i,h,he=>by
  unfold qk0 at he;split at he
  · rcases qxn he with h|⟨a,_,h⟩
    ·exact fresh_err h
    · rcases qxn h with h|⟨b,_,h⟩
      ·exact zqs h
      ·cases h
  · rcases qxn he with h|⟨b,_,h⟩
    ·exact zqs h
    ·cases h
theorem zzj {b:Nat}{kind e:Int}:∀{fs:List (Bs×Int)} {i:Nat} {h:Hp},qje b kind i fs h=.error e->e=22
 |[],i,h,he=>by cases he
 |f::fs,i,h,he=>by
  unfold qje at he;split at he
  ·exact zzj he
  · rcases qxn he with h|⟨a,_,h⟩
    ·exact qww h
    ·exact zzj h
theorem blockR_err {T:List Ty}{p:Par}{h:Hp}{e:Int}(he:zkz p T h=.error e):e=22:=by
 rw[Lx.blockR_eq rfl rfl]at he;unfold restR at he;split at he
 ·cases he
 · rcases qxn he with h|⟨a,_,he⟩
   ·exact zqs h
   · rcases qxn he with h|⟨a2,_,he⟩
     ·exact qww h
     · rcases qxn he with h|⟨a3,_,he⟩
       · split at h
         ·exact qww h
         ·cases h
       · rcases qxn he with h|⟨a4,_,he⟩
         ·exact zzj h
         ·cases he
theorem beginsR_err {T:List Ty}{e:Int}:∀{ps:List Par} {s:Sta},qkk T ps s=.error e->e=22
 |[],s,he=>by cases he
 |p::ps,s,he=>by
  unfold qkk at he
  rcases qxn he with h|⟨a,_,h⟩
  · unfold paramR at h;split at h
    · rcases qxn h with h|⟨a,_,h⟩
      ·exact fresh_err h
      ·cases h
    · rcases qxn h with h|⟨a,_,h⟩
      ·exact blockR_err h
      ·cases h
  ·exact beginsR_err h
end Lg
namespace Lx
open Go
open Lg (Tok Tree Ty Par Sg Sym Chk Hp)
open Go.Proofs (Tryz.prog)
open Go.Proofs.Tryz
def downS (Sp:Spec):Spec:=fun ys bx Kr Kp=>(∃ds:List D,ys=ds.map .d)/\Sp ys nix (fun x _ _=>(∃d,x=.d d)/\Kr x nix none) (fun d _=>Kp d nix)
theorem OKS.down {P:Program}{f:FuncId}{Sp:Spec}(h:OKS P f Sp):OK P f (downS Sp) where
 enters:=h.enters
 calls ys bx Kr Kp hS g vs w has hwd:=by
  obtain⟨⟨ds,rfl⟩,hS⟩:=hS
  obtain⟨g1,hg1⟩:∃g1:Gh,g1={g with β:=fun k=>k-1000000,len:=fun _=>none}:=⟨_,rfl⟩
  have hΦ:g1.Φ=g.Φ:=by rw[hg1]
  have has1:LRps g1 (ds.map .d) vs:=LRps.ofD (by rw[hΦ];exact has.toD)
  have hwd1:Wd g1 nix nix w:=⟨fun k b hk=>(by cases hk),fun r sz ty xs hr=>(by cases hr),fun r=>by rw[hg1];rfl,by rw[hΦ];exact hwd.fx,fun k k' b b' hk=>(by cases hk),fun r r' a a' hr=>(by cases hr),fun k r b a hk=>(by cases hk),fun k b o hk=>(by cases hk),fun r a o hr=>(by cases hr)⟩
  have hno:∀b,¬qxh g1 nix b:=fun b ⟨k,x,hk,_⟩=>by cases hk
  have aft:∀{g' bx' w'},AftS g1 nix w g' bx' w'->Aft g bx w {g' with len:=fun _=>none} nix none w':=by
   intro g' bx' w' hA
   refine⟨hΦ▸hA.Φ,⟨hA.fr.os,hA.fr.tape,hA.fr.output,hA.fr.size,fun b hb _=>hA.fr.block b hb (hno b)⟩,fun b o v hv=>?_,⟨fun k b hk=>(by cases hk),fun r sz ty xs hr=>(by unfold ar0 at hr;split at hr<;>cases hr),fun r=>(by simp only[ar0];split<;>rfl),hA.wd.fx,fun k k' b b' hk=>(by cases hk),fun r r' a a' hr=>(by unfold ar0 at hr;split at hr<;>cases hr),fun k r b a hk=>(by cases hk),fun k b o hk=>(by cases hk),fun r a o hr=>(by unfold ar0 at hr;split at hr<;>cases hr)⟩,fun k b hk=>(by cases hk),fun a ha=>(by cases ha)⟩
   rcases hA.fix b o v hv with h'|h'|h'
   ·exact .inl (hΦ▸h')
   ·exact absurd h' (hno b)
   ·exact .inr (.inr h')
  refine(h.calls _ nix _ _ hS g1 vs w (fun k hk=>by rw[hg1]) (fun k b hk=>(by cases hk)) has1 hwd1).mono ?_
  rintro e w' ⟨g',⟨x,v,bx',rfl,⟨⟨d,rfl⟩,hK⟩,hx,hA⟩|⟨d,v,bx',rfl,hK,hd,hA⟩⟩
  · refine⟨{g' with len:=fun _=>none},.inl ⟨.d d,v,nix,none,rfl,hK,?_,aft hA⟩⟩
    cases hx with
    |d hx=>exact .d hx
  ·exact⟨{g' with len:=fun _=>none},.inr ⟨d,v,nix,rfl,hK,hd,aft hA⟩⟩
def trueE:Spec:=fun ys bx Kr _=>∃l:List UInt8,ys=[.d (.st l)]/\Kr (.d (.bool true)) nix none
theorem flat_at {α:Type}{f:α->D}{sz:Nat}(hsz:∀x,(f x).lcs.length=sz):∀{l:List α} {i:Nat} {x:α},l[i]?=some x->∃A B,(l.map f).flatMap D.lcs=A++(f x).lcs++B/\A.length=i*sz
 |[],i,x,h=>by cases h
 |a::l,0,x,h=>by cases h;exact⟨[],(l.map f).flatMap D.lcs,by simp,by simp⟩
 |a::l,i+1,x,h=>by
  obtain⟨A,B,h1,h2⟩:=flat_at hsz (l:=l) (i:=i) (x:=x) (by simpa using h);refine⟨(f a).lcs++A,B,?_,?_⟩
  ·rw[List.map_cons,List.flatMap_cons,h1];simp
  ·rw[lC,h2,hsz,Nat.add_mul,Nat.one_mul,Nat.add_comm]
theorem arr_at {α:Type}{f:α->D}{sz ty c i:Nat}{l:List α}{x:α}(j:Nat)(hsz:∀x,(f x).lcs.length=sz)(h:l[i]?=some x)(hj:j<sz):(arrB (l.map f) sz ty c).cells[i*sz+j]?=(f x).lcs[j]?:=by
 obtain⟨A,B,h1,h2⟩:=flat_at hsz h;have:=hsz x;unfold arrB;rw[h1,List.append_assoc,List.append_assoc,List.getElem?_append_right (by omega),List.getElem?_append_left (by omega)]
 congr 1;omega
theorem arr_take {α:Type}{f:α->D}{sz ty c i:Nat}{l:List α}{x:α}(hsz:∀x,(f x).lcs.length=sz)(h:l[i]?=some x):List.take sz (List.drop (i*sz) (arrB (l.map f) sz ty c).cells)=(f x).lcs:=by
 obtain⟨A,B,h1,h2⟩:=flat_at hsz h;have:=hsz x;unfold arrB;rw[h1,List.append_assoc,List.append_assoc,<-h2,List.drop_left,<-this,List.take_left]
theorem zwn {α:Type}{f:α->D}{sz ty c i:Nat}{l:List α}(hsz:∀x,(f x).lcs.length=sz)(h:i<l.length):i*sz+sz<=(arrB (l.map f) sz ty c).cells.length:=by
 unfold arrB;rw[lC,zqd (fun d hd=>by obtain⟨x,_,rfl⟩:=List.mem_map.1 hd;exact hsz x),lE];have:(i+1)*sz<=l.length*sz:=Nat.mul_le_mul_right _ h;rw[Nat.add_mul,Nat.one_mul]at this;omega
theorem ov_arr {B:Bx}{b sz ty c:Nat}{ds:List D}(f:Bx)(h:B (b+1000000)=some (arrB ds sz ty c)):ovS B f (b+1000000)=some ⟨(arrB ds sz ty c).cells,ty⟩:=by
 rw[qw7,if_pos (by omega),h]
 show some (Box.mk (dC (arrB ds sz ty c).cells) ty)=_
 rw[zwo]
theorem zwi {cs:List Chk}{vs:List D}{b k:Nat}{x:Chk}{v:D}(h:cs[b]?=some x)(hv:vs[b]?=some v)(hl:vs.length=cs.length):List.take 11 (List.drop (b*11) (chkB cs vs k).cells)=(chkD x v).lcs:=by
 apply List.ext_getElem?;intro j;rw[List.getElem?_take];split
 ·rename_i hj;rw[List.getElem?_drop,chk_at j k h hv hl hj]
 · rename_i hj
   have:(chkD x v).lcs.length=11:=by simp[chkD,D.lcs]
   rw[List.getElem?_eq_none (by omega)]
end Lx
