import Derived.Test.YtkknljojdgpdaaaGreatDoorB09
import Derived.Test.YtkknljojdgpdaaaGreatDoorB00
import Derived.Shelf.Small.Strs
import Derived.Shelf.Strconv.ParseIntEmpty
import Derived.Shelf.LaysM
import Derived.Shelf.Strconv.Clone
import Derived.Shelf.Strconv.SyntaxError
import Derived.Shelf.LaysC
import Derived.Shelf.Strconv.ToError
import Derived.Shelf.Strconv.Lower
import Derived.Shelf.Strconv.ParseUint10
import Derived.Shelf.Strconv.ParseUint10Empty
import Derived.Shelf.Strconv.ParseUint10Any
import Derived.Shelf.Strconv.ParseInt10
import Derived.Shelf.Strconv.RangeError
import Derived.Shelf.Strconv.ToErrorRange
import Derived.Shelf.Strconv.ParseUintEmpty
import Derived.Shelf.Strconv.ParseUint10b64
import Derived.Shelf.Strconv.ParseUint10b32
import Derived.Shelf.Strconv.ParseUint10b16
import Derived.Shelf.Strconv.ParseUint10b8
import Derived.Shelf.Strconv.ParseUint10At
import Derived.Shelf.Strconv.ParseInt10At64
import Derived.Shelf.Strconv.ParseInt10At32
import Derived.Shelf.Strconv.ParseInt10At16
import Derived.Shelf.Strconv.ParseInt10At8
import Derived.Shelf.Strconv.ParseInt10All
import Derived.Shelf.Strconv.ParseIntPublic10
import Derived.Shelf.Strconv.ErrVarParseInt
import Derived.Shelf.Strings.Search1
import Derived.Test.YtkknljojdgpdaaaGreatDoorProg
set_option maxHeartbeats 32000000
set_option linter.unusedSimpArgs false
set_option linter.unusedVariables false
namespace Lx
open Go
open Lg (Tok Tree)
def qqa (t:Tok):D:=.ag [.int .i64 t.kind,.st t.text,.int .i64 t.num,.int .i64 t.pos]
mutual
def qzr:Tree->D
 |.node k t n p ks=>.ag [.int .i64 k,.st t,.int .i64 n,.int .i64 p,.sl 5 (qze ks) false]
def qze:List Tree->List D
 |[]=>[]
 |k::ks=>qzr k::qze ks
end
theorem qzp:∀xs ys:List Tree,qze (xs++ys)=qze xs++qze ys
 |[],_=>rfl
 |x::xs,ys=>by simp[qze,qzp xs ys]
@[go_sem]theorem qzn:∀xs:List Tree,(qze xs).length=xs.length
  |[]=>rfl
  |x::xs=>by simp[qze,qzn xs]
section
variable (t:Tok)(n:Tree)
@[go_sem ↓]theorem jqy:D.lcs (qqa t)=[iD t.kind,.d (.st t.text),iD t.num,iD t.pos]:=(rfl)
@[go_sem ↓]theorem kzb:D.cs (qqa t)=[.int .i64 t.kind,.st t.text,.int .i64 t.num,.int .i64 t.pos]:=(rfl)
@[go_sem ↓]theorem yjX:D.flat (qqa t)=true:=(rfl)
@[go_sem ↓]theorem wvW:qqg (.d (qqa t))=some [iD t.kind,.d (.st t.text),iD t.num,iD t.pos]:=(rfl)
@[go_sem ↓]theorem jqw:pcs (.d (qqa t))=some [iD t.kind,.d (.st t.text),iD t.num,iD t.pos]:=(rfl)
@[go_sem ↓]theorem jqx:one (.d (qqa t))=false:=(rfl)
@[go_sem ↓]theorem yjW:D.lcs (qzr n)=[iD n.kind,.d (.st n.text),iD n.num,iD n.pos,.d (.sl 5 (qze n.kids) false)]:=by
  cases n;simp only[qzr,D.lcs,Tree.kind,Tree.text,Tree.num,Tree.pos,Tree.kids,List.map_cons,List.map_nil]
@[go_sem ↓]theorem jqu:D.cs (qzr n)=[.int .i64 n.kind,.st n.text,.int .i64 n.num,.int .i64 n.pos,.sl 5 (qze n.kids) false]:=by
  cases n;simp only[qzr,D.cs,Tree.kind,Tree.text,Tree.num,Tree.pos,Tree.kids]
@[go_sem ↓]theorem yzx:D.flat (qzr n)=true:=by cases n;simp only[qzr,D.flat]
@[go_sem ↓]theorem wj7:qqg (.d (qzr n))=some [iD n.kind,.d (.st n.text),iD n.num,iD n.pos,.d (.sl 5 (qze n.kids) false)]:=by
  cases n;simp only[qzr,qqg,Tree.kind,Tree.text,Tree.num,Tree.pos,Tree.kids,List.map_cons,List.map_nil]
@[go_sem ↓]theorem yjU:pcs (.d (qzr n))=some [iD n.kind,.d (.st n.text),iD n.num,iD n.pos,.d (.sl 5 (qze n.kids) false)]:=by
  cases n;simp only[qzr,pcs,qqg,Tree.kind,Tree.text,Tree.num,Tree.pos,Tree.kids,List.map_cons,List.map_nil]
@[go_sem ↓]theorem yjV:one (.d (qzr n))=false:=by cases n;simp only[qzr,one]
end
theorem qzc {k:Int}{t:List UInt8}{n p:Int}{x:D}{ks:List Tree}(h:D.le x (.sl 5 (qze ks) false)):D.le (.ag [.int .i64 k,.st t,.int .i64 n,.int .i64 p,x]) (qzr (.node k t n p ks)):=by
 rw[qzr];exact .ag (.cons (.rfl _) (.cons (.rfl _) (.cons (.rfl _) (.cons (.rfl _) (.cons h .nil)))))
theorem qzk (v:Tree):D.le (.ag [.int .i64 v.kind,.st v.text,.int .i64 v.num,.int .i64 v.pos,.sl 5 (qze v.kids) false]) (qzr v):=by
 cases v;exact qzc (.rfl _)
theorem qzQ:D.le (.imm (.slice none 0 0)) (.sl 5 (qze []) false):=.nil 5 false
theorem qj6 {xs:List D}{f:Bool}{ts:List Tree}(h:xs=qze ts):D.le (.sl 5 xs f) (.sl 5 (qze ts) false):=h▸ .sl (D.les.refl _) (fun e=>by cases e)
theorem qzb {x y:D}(h:D.le x y):D.les [x] [y]:=.cons h .nil
def qqd (ts:List Tok)(deep:Int):Box:=⟨[.d (.sl 4 (ts.map qqa) false),iD deep],149⟩
@[go_sem ↓]theorem jxf (ts:List Tok)(deep:Int):(allD (qqd ts deep).cells).isSome=true:=(rfl)
@[go_sem ↓]theorem jxg (r n:Nat)(x:D)(ts:List Tok)(deep:Int):Box.fz r n x (qqd ts deep)=qqd ts deep:=(rfl)
@[go_sem ↓]theorem ykF (k:Nat)(ts:List Tok)(deep:Int):Box.fgt k (qqd ts deep)=qqd ts deep:=(rfl)
def yjH:List Tok->Prop
 |[]=>False
 |[t]=>t.kind=0
 |t::ts=>t.kind≠0/\ -9223372036854775807<=t.num/\t.num<=9223372036854775807/\yjH ts
def qjk (ts:List Tok):Prop:=yjH ts/\ts.length<=2097152
theorem qjk.cons {ts:List Tok}(h:qjk ts):∃t l,ts=t::l:=by
 cases ts with|nil=>{exact h.1.elim}|cons t l=>{exact⟨t,l,rfl⟩}
theorem qjk.tail {t:Tok}{ts:List Tok}(h:qjk (t::ts))(hk:t.kind≠0):qjk ts:=by
 obtain⟨h,hl⟩:=h;simp only[lB]at hl;cases ts with|nil=>{exact(hk h).elim}|cons u l=>{exact⟨h.2.2.2,by omega⟩}
theorem qjk.hd {ts:List Tok}(h:qjk ts)(hk:(Lg.hd ts).kind≠0): -9223372036854775807<=(Lg.hd ts).num/\(Lg.hd ts).num<=9223372036854775807/\qjk ts.tail:=by
 obtain⟨t,l,rfl⟩:=h.cons;refine⟨?_,?_,h.tail hk⟩;{cases l with|nil=>{exact(hk h.1).elim}|cons u l=>{exact h.1.2.1}};{cases l with|nil=>{exact(hk h.1).elim}|cons u l=>{exact h.1.2.2.1}}
@[go_sem]theorem ykh (l:List Tok):List.take l.length (List.map qqa l)=List.map qqa l:=by
  rw[List.take_of_length_le (by simp)]
@[go_sem]theorem yz5 (l:List Tree):List.take l.length (qze l)=qze l:=by
  rw[List.take_of_length_le (by simp[qzn])]
def post {α:Type}(r:Lg.PR α)(P:α->List Tok->Prop)(Q:Int->Int->Prop):Prop:=match r with
 |.ok (x,ts')=>P x ts'
 |.error (a,c)=>Q a c
theorem qzi {α β:Type}{r:Lg.PR α}{f:α->List Tok->Lg.PR β}{P:β->List Tok->Prop}{Q:Int->Int->Prop}{P':α->List Tok->Prop}{Q':Int->Int->Prop}
  (h:post (Lg.bnd r f) P Q)(he:∀a c,Q a c->Q' a c)(hk:∀x ts',r=.ok (x,ts')->post (f x ts') P Q->P' x ts'):post r P' Q':=by
 cases r with|error p=>{obtain⟨a,c⟩:=p;exact he a c h}|ok p=>{obtain⟨x,ts'⟩:=p;exact hk x ts' rfl h}
theorem qqn {α:Type}{r:Lg.PR α}{P:α->List Tok->Prop}{Q:Int->Int->Prop}{P':α->List Tok->Prop}{Q':Int->Int->Prop}
  (h:post r P Q)(he:∀a c,Q a c->Q' a c)(hk:∀x ts',r=.ok (x,ts')->P x ts'->P' x ts'):post r P' Q':=by
 cases r with|error p=>{obtain⟨a,c⟩:=p;exact he a c h}|ok p=>{obtain⟨x,ts'⟩:=p;exact hk x ts' rfl h}
def kzV {α:Type}(res:α->LV)(f:List Tok->Lg.PR α)(args:List LV):qzP:=fun ys bx Kr Kp=>
 ∃ts deep,ys=.bp 1000 0::args/\bx 1000=some (qqd ts deep)/\qjk ts/\
  post (f ts) (fun x ts'=>qjk ts'->Kr (res x) (put 1000 (qqd ts' deep) nix) none) (fun a c=>∀ts' d',Kp (.ifc 145 (.ag [.int .i64 a,.int .i64 c])) (put 1000 (qqd ts' d') nix))
abbrev qxY {α:Type}(res:α->D)(f:List Tok->Lg.PR α)(args:List LV):qzP:=kzV (fun x=>.d (res x)) f args
def qvt:qzP:=fun ys bx Kr _=>∃ts deep,ys=[.bp 1000 0]/\bx 1000=some (qqd ts deep)/\qjk ts/\Kr (.d (qqa (Lg.hd ts))) (put 1000 (qqd ts deep) nix) none
def isS:qzP:=fun ys bx Kr _=>∃ts deep s,ys=[.bp 1000 0,.d (.st s)]/\bx 1000=some (qqd ts deep)/\qjk ts/\Kr (.d (.bool (Lg.isT s ts))) (put 1000 (qqd ts deep) nix) none
def zqD:qzP:=fun ys bx Kr _=>∃ts deep s,ys=[.bp 1000 0,.d (.st s)]/\bx 1000=some (qqd ts deep)/\qjk ts/\(Lg.isT s ts=true->Kr (.d (.bool true)) (put 1000 (qqd ts.tail deep) nix) none)/\(Lg.isT s ts=false->Kr (.d (.bool false)) (put 1000 (qqd ts deep) nix) none)
def zxz:qzP:=fun ys bx _ Kp=>∃ts deep c,ys=[.bp 1000 0,iD c]/\bx 1000=some (qqd ts deep)/\qjk ts/\Kp (.ifc 145 (.ag [.int .i64 (Lg.hd ts).pos,.int .i64 c])) (put 1000 (qqd ts deep) nix)
end Lx
set_option maxRecDepth 20000
namespace Lx
open Go
open Lg (Tok Tree)
open Go.Proofs (Tryz.prog)
open Go.Proofs.Tryz
abbrev EV:Env:=mkE false (fun _=>false) (fun _=>true)
theorem qzu:Tryz.prog.follows .mixedOrders=true:=by kernel_rfl
theorem qxq:OK Tryz.prog 42 qvt:=by
 refine fn_OK' qzu (E:=EV) (sp:=spL []) qzt qzl (OKs.ok trivial) func42 rfl ntmps42 results42 call42 [1000] none ?_;rintro ys bx Kr Kp ⟨ts,deep,rfl,hb,hg,hK⟩;obtain⟨t,l,rfl⟩:=hg.cons;refine⟨[(1000,qqd (t::l) deep)],rfl,⟨by decide,hb,trivial⟩,by decide,?_⟩;unfold qqd;simp only[go_sem];exact⟨by omega,_,qzb (.rfl _),hK⟩
theorem zjo:OK Tryz.prog 80 isS:=by
 refine fn_OK' qzu (E:=EV) (sp:=spL [(42,qvt)]) qzt qzl (OKs.ok ⟨qxq,trivial⟩) func80 rfl ntmps80 results80 call80 [1000] none ?_;rintro ys bx Kr Kp ⟨ts,deep,s,rfl,hb,hg,hK⟩;refine⟨[(1000,qqd ts deep)],rfl,⟨by decide,hb,trivial⟩,by simp,?_⟩;simp only[go_sem];refine⟨ts,deep,rfl,rfl,hg,?_⟩;simp only[go_sem];unfold Lg.isT at hK;refine⟨fun h2=>⟨_,qzb (.rfl _),?_⟩,fun h2=>⟨fun h4=>⟨_,qzb (.rfl _),?_⟩,fun h4=>⟨_,qzb (.rfl _),?_⟩⟩⟩;{rw[h2]at hK;exact hK};{rw[h2,h4]at hK;exact hK};{rw[h2,h4]at hK;exact hK}
theorem zqj {s:List UInt8}{ts:List Tok}(h:Lg.isT s ts=true):(Lg.hd ts).kind≠0:=by
 intro e;simp[Lg.isT,e]at h
theorem qxm:OK Tryz.prog 43 zqD:=by
 refine fn_OK' qzu (E:=EV) (sp:=spL [(80,isS)]) qzt qzl (OKs.ok ⟨zjo,trivial⟩) func43 rfl ntmps43 results43 call43 [1000] none ?_;rintro ys bx Kr Kp ⟨ts,deep,s,rfl,hb,hg,hK,hK'⟩;refine⟨[(1000,qqd ts deep)],rfl,⟨by decide,hb,trivial⟩,by simp,?_⟩;simp only[go_sem];refine⟨ts,deep,s,rfl,rfl,hg,?_⟩;obtain⟨t,l,rfl⟩:=hg.cons;simp only[qqd,go_sem];refine⟨fun h=>?_,fun h=>?_⟩;exact⟨by omega,_,qzb (.rfl _),hK h⟩;exact⟨_,qzb (.rfl _),hK' h⟩
theorem qkE:OK Tryz.prog 84 zxz:=by
 refine fn_OK' qzu (E:=EV) (sp:=spL [(42,qvt)]) qzt qzl (OKs.ok ⟨qxq,trivial⟩) func84 rfl ntmps84 results84 call84 [1000] none ?_;rintro ys bx Kr Kp ⟨ts,deep,c,rfl,hb,hg,hK⟩;refine⟨[(1000,qqd ts deep)],rfl,⟨by decide,hb,trivial⟩,by simp,?_⟩;simp only[go_sem];refine⟨ts,deep,rfl,rfl,hg,?_⟩;simp only[go_sem];exact hK
def qkU:qzP:=fun ys bx Kr Kp=>∃s,kzV (fun _=>.tup []) (Lg.qvV s) [.d (.st s)] ys bx Kr Kp
theorem qqY:OK Tryz.prog 45 qkU:=by
 refine fn_OK' qzu (E:=EV) (sp:=spL [(43,zqD),(84,zxz)]) qzt qzl (OKs.ok ⟨qxm,⟨qkE,trivial⟩⟩) func45 rfl ntmps45 results45 call45 [1000] none ?_;rintro ys bx Kr Kp ⟨s,ts,deep,rfl,hb,hg,hK⟩;refine⟨[(1000,qqd ts deep)],rfl,⟨by decide,hb,trivial⟩,by simp,?_⟩;simp only[go_sem];unfold Lg.qvV Lg.flt at hK;refine⟨ts,deep,s,rfl,rfl,hg,fun h=>?_,fun h=>?_⟩;{rw[if_pos h]at hK;simp only[go_sem];exact⟨_,.nil,hK (hg.hd (zqj h)).2.2⟩};{rw[if_neg (by rw[h];decide)]at hK;simp only[go_sem];refine⟨ts,deep,20,rfl,rfl,hg,?_⟩;simp only[go_sem];exact hK ts deep}
theorem zxK (k:Int)(hk:k≠0):OK Tryz.prog 124 (qxY qqa (Lg.take k) [iD k]):=by
 refine fn_OK' qzu (E:=EV) (sp:=spL [(42,qvt),(84,zxz)]) qzt qzl (OKs.ok ⟨qxq,⟨qkE,trivial⟩⟩) func124 rfl ntmps124 results124 call124 [1000] none ?_;rintro ys bx Kr Kp ⟨ts,deep,rfl,hb,hg,hK⟩;refine⟨[(1000,qqd ts deep)],rfl,⟨by decide,hb,trivial⟩,by simp,?_⟩;simp only[go_sem];refine⟨ts,deep,rfl,rfl,hg,?_⟩;obtain⟨t,l,rfl⟩:=hg.cons;simp only[go_sem];refine⟨fun h=>?_,fun h=>?_⟩;{have e:Lg.take k (t::l)=.error ((Lg.hd (t::l)).pos,20):=by{simp only[Lg.take,Lg.flt,if_neg (show¬(Lg.hd (t::l)).kind=k by simpa using h)]};rw[e]at hK;refine⟨t::l,deep,20,rfl,rfl,hg,?_⟩;simp only[go_sem];exact hK (t::l) deep};{have h':(Lg.hd (t::l)).kind=k:=by{simpa using h};have e:Lg.take k (t::l)=.ok (t,l):=by{simp only[Lg.take,if_pos h'];rfl};rw[e]at hK;simp only[qqd,go_sem];exact⟨by omega,_,qzb (.rfl _),hK (hg.tail (by rw[<-h']at hk;exact hk))⟩}
theorem qjs:OK Tryz.prog 81 (qxY qzr Lg.name []):=by
 refine fn_OK' qzu (E:=EV) (sp:=spL [(124,(qxY qqa (Lg.take 1) [iD 1]))]) qzt qzl (OKs.ok ⟨(zxK 1 (by decide)),trivial⟩) func81 rfl ntmps81 results81 call81 [1000] none ?_;rintro ys bx Kr Kp ⟨ts,deep,rfl,hb,hg,hK⟩;refine⟨[(1000,qqd ts deep)],rfl,⟨by decide,hb,trivial⟩,by simp,?_⟩;simp only[go_sem];refine⟨ts,deep,rfl,rfl,hg,?_⟩;refine qzi hK (fun a c h ts' d'=>?_) (fun x ts' e hK hg'=>?_);{simp only[go_sem];exact h ts' d'};{simp only[go_sem];exact⟨_,qzb (qzc qzQ),hK hg'⟩}
theorem zw4 (n:Int)(hn:n=1\/n= -1):OK Tryz.prog 155 (qxY (fun v=>.int .i64 v) (Lg.qkT n) [iD n]):=by
 refine fn_OK' qzu (E:=EV) (sp:=spL [(124,(qxY qqa (Lg.take 3) [iD 3]))]) qzt qzl (OKs.ok ⟨(zxK 3 (by decide)),trivial⟩) func155 rfl ntmps155 results155 call155 [1000] none ?_;rintro ys bx Kr Kp ⟨ts,deep,rfl,hb,hg,hK⟩;refine⟨[(1000,qqd ts deep)],rfl,⟨by decide,hb,trivial⟩,by simp,?_⟩;simp only[go_sem];refine⟨ts,deep,rfl,rfl,hg,?_⟩;refine qzi hK (fun a c h ts' d'=>?_) (fun x ts' e hK hg'=>?_);{simp only[go_sem];exact h ts' d'};{unfold Lg.take at e;split at e;{rename_i h;have:=hg.hd (by omega);simp only[Except.ok.injEq,Prod.mk.injEq]at e;obtain⟨rfl,rfl⟩:=e;simp only[go_sem];refine⟨?_,_,qzb (.rfl _),hK hg'⟩;rcases hn with rfl|rfl<;>omega};{cases e}}
theorem qjk.isT {s:List UInt8}{ts:List Tok}(hg:qjk ts)(h:Lg.isT s ts=true):qjk ts.tail:=(hg.hd (zqj h)).2.2
abbrev kk3 (n:Int):qzP:=qxY (fun v=>.int .i64 v) (Lg.qkT n) [iD n]
def zw3:qzP:=fun ys bx Kr Kp=>∃n,(n=1\/n= -1)/\kk3 n ys bx Kr Kp
theorem qkl:OK Tryz.prog 155 zw3 where
 enters:=call155
 calls aZ' bx Kr Kp hS:=by
  obtain⟨n,hn,hS⟩:=hS;exact(zw4 n hn).calls aZ' bx Kr Kp hS
end Lx
namespace Lg
def qvb (b:UInt8):Bool:=(decide (97<=b.toNat)&&decide (b.toNat<=122))||b.toNat==95
def qkC (b:UInt8):Bool:=decide (48<=b.toNat)&&decide (b.toNat<=57)
def qqr (b:UInt8):Bool:=qvb b||qkC b
def keys:List Bs:=[yzR,sFn,zvR,wqp,zzQ,wql,zvT,wxG,yzT,jqD,yzU,zvP,sIf,yzW,wxF,zvQ,wxJ,yzV,kzq,wxI]
def wxa (s:Bs):Bool:=keys.contains s
def dec (s:Bs):Nat:=s.foldl (fun n b=>n*10+(b.toNat-48)) 0
def zqk (l:Bs):Bool:=match l with
 |[]=>false
 |b::_=>qvb b
def kkm:Bs:=[123,125,40,41,91,93,44,58,59,61,43,45,38,60]
def yks (l:Bs):Bs:=
 if wxH.isPrefixOf l then wxH
 else if sLe.isPrefixOf l then sLe
 else if wqo.isPrefixOf l then wqo
 else match l with
 |[]=>[]
 |b::_=>if kkm.contains b then [b]else []
def wjA (pos:Int)(l:Bs):Except Int Tok:=
 match l with
 |[]=>.error 11
 |b::_=>
  if qkC b then
   if 1099511627776<dec (l.takeWhile qkC)||(decide (1<(l.takeWhile qkC).length)&&b==48)||zqk (l.dropWhile qkC)then .error 12
   else .ok ⟨3,l.takeWhile qkC,dec (l.takeWhile qkC),pos⟩
  else if qvb b then
   if 16<(l.takeWhile qqr).length then .error 13
   else .ok ⟨if wxa (l.takeWhile qqr)then 2 else 1,l.takeWhile qqr,0,pos⟩
  else if yks l=[]then .error 11
  else .ok ⟨4,yks l,0,pos⟩
theorem qjZ {α:Type}(p:α->Bool):∀l:List α,(l.dropWhile p).length<=l.length
 |[]=>by simp
 |x::l=>by
  rw[List.dropWhile_cons];split;{have:=qjZ p l;simp only[lB];omega};exact Nat.le_refl _
def lex (pos:Int)(l:Bs):Except (Int×Int) (List Tok):=
 match l with
 |[]=>.ok [⟨0,[],0,pos⟩]
 |b::r=>
  if b==32||b==10 then lex (pos+1) r
  else if b==35 then lex (pos+1+(r.takeWhile (· != 10)).length) (r.dropWhile (· != 10))
  else match wjA pos (b::r)with
   |.error e=>.error (pos,e)
   |.ok t=>match lex (pos+t.text.length) (r.drop (t.text.length-1))with
     |.error e=>.error e
     |.ok ts=>.ok (t::ts)
termination_by l.length
decreasing_by
 skip;{simp};{have:=qjZ (· != 10) r;simp only[lB];omega};{simp only[List.length_drop,lB];omega}
def jqv (l:Bs):Except (Int×Int) (List Tok):=if 16384<l.length then .error (0,10)else lex 0 l
def qwW (l:Bs):Except (Int×Int) Tree:=match jqv l with
 |.error e=>.error e
 |.ok ts=>qjP ts
end Lg
namespace Lx
open Go
open Lg (Tok Tree)
open Go.Proofs (Tryz.prog)
open Go.Proofs.Tryz
def qkH (p:UInt8->Bool):qzP:=fun ys bx Kr _=>∃c:UInt8,ys=[.d (.int .u8 (c.toNat:Int))]/\Kr (.d (.bool (p c))) nix none
theorem yvR (k:Nat)(c:UInt8):decide ((k:Int)<=(c.toNat:Int))=decide (k<=c.toNat):=by simp only[decide_eq_decide];omega
theorem yvQ (k:Nat)(c:UInt8):decide ((c.toNat:Int)<=(k:Int))=decide (c.toNat<=k):=by simp only[decide_eq_decide];omega
theorem jkl (k:Nat)(c:UInt8):((c.toNat:Int)==(k:Int))=(c.toNat==k):=by rw[Bool.eq_iff_iff];simp only[beq_iff_eq];omega
theorem zqy:OK Tryz.prog 74 (qkH Lg.qkC):=by
 refine fn_OK' qzu (E:=EV) (sp:=spL []) qzt qzl (OKs.ok trivial) func74 rfl ntmps74 results74 call74 [] none ?_;rintro ys bx Kr Kp ⟨c,rfl,hK⟩;refine⟨[],rfl,trivial,by simp,?_⟩;unfold Lg.qkC at hK;have e1:=yvR 48 c;have e2:=yvQ 57 c;rw[show((48:Nat):Int)=48 from rfl]at e1;rw[show((57:Nat):Int)=57 from rfl]at e2;simp only[e1,e2,go_sem];refine⟨fun h=>?_,fun h=>?_⟩;{rw[h,Bool.true_and]at hK;exact⟨_,qzb (.rfl _),hK⟩};{rw[h,Bool.false_and]at hK;exact⟨_,qzb (.rfl _),hK⟩}
theorem qwy:OK Tryz.prog 76 (qkH Lg.qvb):=by
 refine fn_OK' qzu (E:=EV) (sp:=spL []) qzt qzl (OKs.ok trivial) func76 rfl ntmps76 results76 call76 [] none ?_;rintro ys bx Kr Kp ⟨c,rfl,hK⟩;refine⟨[],rfl,trivial,by simp,?_⟩;unfold Lg.qvb at hK;have e1:=yvR 97 c;have e2:=yvQ 122 c;have e3:=jkl 95 c;rw[show((97:Nat):Int)=97 from rfl]at e1;rw[show((122:Nat):Int)=122 from rfl]at e2;rw[show((95:Nat):Int)=95 from rfl]at e3;simp only[e1,e2,e3,go_sem];refine⟨fun h=>⟨fun h2=>?_,fun h2=>?_⟩,fun h=>?_⟩;{rw[h,h2]at hK;exact⟨_,qzb (.rfl _),hK⟩};{rw[h,h2]at hK;exact⟨_,qzb (.rfl _),hK⟩};{rw[h]at hK;exact⟨_,qzb (.rfl _),hK⟩}
theorem zvz:OK Tryz.prog 78 (qkH Lg.qqr):=by
 refine fn_OK' qzu (E:=EV) (sp:=spL [(76,(qkH Lg.qvb)),(74,(qkH Lg.qkC))]) qzt qzl (OKs.ok ⟨qwy,⟨zqy,trivial⟩⟩) func78 rfl ntmps78 results78 call78 [] none ?_;rintro ys bx Kr Kp ⟨c,rfl,hK⟩;refine⟨[],rfl,trivial,by simp,?_⟩;unfold Lg.qqr at hK;simp only[go_sem];refine⟨c,rfl,?_⟩;simp only[go_sem];refine⟨fun h=>?_,fun h=>?_⟩;{rw[h]at hK;exact⟨_,qzb (.rfl _),hK⟩};{rw[h]at hK;refine⟨c,rfl,?_⟩;simp only[go_sem];exact⟨_,qzb (.rfl _),hK⟩}
theorem wkP:OK Tryz.prog 73 (qkH (· != 10)):=by
 refine fn_OK' qzu (E:=EV) (sp:=spL []) qzt qzl (OKs.ok trivial) func73 rfl ntmps73 results73 call73 [] none ?_;rintro ys bx Kr Kp ⟨c,rfl,hK⟩;refine⟨[],rfl,trivial,by simp,?_⟩;have e1:((c.toNat:Int) != 10)=(c != 10):=by{have:=jkl 10 c;have h2:(c==10)=(c.toNat==10):=by{rw[Bool.eq_iff_iff];simp only[beq_iff_eq];exact⟨fun h=>by rw[h];rfl,fun h=>UInt8.toNat_inj.1 h⟩};simp only[bne,h2];rw[show(10:Int)=((10:Nat):Int) from rfl,this]};simp only[e1,go_sem];exact⟨_,qzb (.rfl _),hK⟩
def qzY (p:UInt8->Bool)(l:Bs)(i:Nat):Nat:=i+((l.drop i).takeWhile p).length
theorem qk6 {p:UInt8->Bool}{l:Bs}{i:Nat}(h:i<l.length)(hp:p l[i]=true):qzY p l i=qzY p l (i+1):=by
 unfold qzY;rw[List.drop_eq_getElem_cons h,List.takeWhile_cons,if_pos hp,lB];omega
theorem qjM {p:UInt8->Bool}{l:Bs}{i:Nat}(h:i<l.length)(hp:p l[i]=false):qzY p l i=i:=by
 unfold qzY;rw[List.drop_eq_getElem_cons h,List.takeWhile_cons,if_neg (by rw[hp];decide)];rfl
theorem qkO {p:UInt8->Bool}{l:Bs}{i:Nat}(h:l.length<=i):qzY p l i=i:=by
 unfold qzY;rw[List.drop_eq_nil_of_le h];rfl
def ykx (f:Nat)(p:UInt8->Bool):qzP:=fun ys bx Kr _=>∃(l:Bs) (i:Nat),ys=[.d (.st l),iD i,.fn (.func f) [] []]/\i<=l.length/\l.length<=140737488351232/\Kr (iD (qzY p l i)) nix none
theorem zvU (f:Nat)(p:UInt8->Bool)(hp:OK Tryz.prog f (qkH p)):OK Tryz.prog 72 (ykx f p):=by
 refine fn_OK' qzu (E:=EV) (sp:=spL [(f,(qkH p))]) qzt qzl (OKs.ok ⟨hp,trivial⟩) func72 rfl ntmps72 results72 call72 [] none ?_;rintro ys bx Kr Kp ⟨l,i,rfl,hi,hl,hK⟩;refine⟨[],rfl,trivial,by simp,?_⟩;simp only[go_sem];refine qzj (T:={j:Nat //j<=l.length/\qzY p l j=qzY p l i}) (fun j=>⟨21,put 0 (.d (.st l)) (put 1 (iD j.1) (put 2 (.fn (.func f) [] []) nix)),nix,nix⟩) (fun j=>l.length-j.1) ⟨i,hi,rfl⟩ ⟨rfl,sP3 qza,qza,qza⟩ ?_;rintro⟨j,hj,hr⟩;simp only[go_sem];refine⟨fun h=>?_,fun h=>?_⟩;{have hlt:j<l.length:=by{have:=lF h;omega};refine⟨by omega,by omega,?_⟩;rw[lA,lD hlt];simp only[go_sem];refine⟨l[j],rfl,?_⟩;simp only[go_sem];refine⟨fun h2=>?_,fun h2=>?_⟩;{refine⟨⟨by omega,by omega⟩,⟨j+1,hlt,by rw[<-hr,qk6 hlt h2]⟩,⟨rfl,sP1 (qzd ?_ (sP1 qza)),qza,qza⟩,?_⟩;{show some (LV.d (.int .i64 _))=some (LV.d (.int .i64 _));congr 3};{show l.length-(j+1)<l.length-j;omega}};{rw[<-hr,qjM hlt h2]at hK;exact⟨_,qzb (.rfl _),hK⟩}};{have e:j=l.length:=by{have:=lG h;omega};subst e;rw[<-hr,qkO (Nat.le_refl _)]at hK;exact⟨_,qzb (.rfl _),hK⟩}
theorem orK {Kr:LV->Bx->Ar1->Prop}{b r:Bool}(h:Kr (.d (.bool (b||r))) nix none):(b=true->Kr (.d (.bool true)) nix none)/\(b=false->Kr (.d (.bool r)) nix none):=
 ⟨fun e=>by rw[e]at h;exact h,fun e=>by rw[e]at h;exact h⟩
def yvz:qzP:=fun ys bx Kr _=>∃l,ys=[.d (.st l)]/\Kr (.d (.bool (Lg.wxa l))) nix none
theorem wqZ:OK Tryz.prog 121 yvz:=by
 refine fn_OK' qzu (E:=EV) (sp:=spL []) qzt qzl (OKs.ok trivial) func121 rfl ntmps121 results121 call121 [] none ?_;rintro ys bx Kr Kp ⟨l,rfl,hK⟩;refine⟨[],rfl,trivial,by simp,?_⟩;unfold Lg.wxa Lg.keys at hK;simp only[List.contains_cons,List.contains_nil]at hK;simp only[go_sem];refine⟨fun h=>⟨fun _=>⟨_,qzb (.rfl _),(orK hK).1 h⟩,fun h'=>absurd (h.symm.trans h') (by decide)⟩,fun h=>?_⟩;replace hK:=(orK hK).2 h;clear h;refine⟨fun h=>⟨fun _=>⟨_,qzb (.rfl _),(orK hK).1 h⟩,fun h'=>absurd (h.symm.trans h') (by decide)⟩,fun h=>?_⟩;replace hK:=(orK hK).2 h;clear h;refine⟨fun h=>⟨fun _=>⟨_,qzb (.rfl _),(orK hK).1 h⟩,fun h'=>absurd (h.symm.trans h') (by decide)⟩,fun h=>?_⟩;replace hK:=(orK hK).2 h;clear h;refine⟨fun h=>⟨fun _=>⟨_,qzb (.rfl _),(orK hK).1 h⟩,fun h'=>absurd (h.symm.trans h') (by decide)⟩,fun h=>?_⟩;replace hK:=(orK hK).2 h;clear h;refine⟨fun h=>⟨fun _=>⟨_,qzb (.rfl _),(orK hK).1 h⟩,fun h'=>absurd (h.symm.trans h') (by decide)⟩,fun h=>?_⟩;replace hK:=(orK hK).2 h;clear h;refine⟨fun h=>⟨fun _=>⟨_,qzb (.rfl _),(orK hK).1 h⟩,fun h'=>absurd (h.symm.trans h') (by decide)⟩,fun h=>?_⟩;replace hK:=(orK hK).2 h;clear h;refine⟨fun h=>⟨fun _=>⟨_,qzb (.rfl _),(orK hK).1 h⟩,fun h'=>absurd (h.symm.trans h') (by decide)⟩,fun h=>?_⟩;replace hK:=(orK hK).2 h;clear h;refine⟨fun h=>⟨fun _=>⟨_,qzb (.rfl _),(orK hK).1 h⟩,fun h'=>absurd (h.symm.trans h') (by decide)⟩,fun h=>?_⟩;replace hK:=(orK hK).2 h;clear h;refine⟨fun h=>⟨fun _=>⟨_,qzb (.rfl _),(orK hK).1 h⟩,fun h'=>absurd (h.symm.trans h') (by decide)⟩,fun h=>?_⟩;replace hK:=(orK hK).2 h;clear h;refine⟨fun h=>⟨fun _=>⟨_,qzb (.rfl _),(orK hK).1 h⟩,fun h'=>absurd (h.symm.trans h') (by decide)⟩,fun h=>?_⟩;replace hK:=(orK hK).2 h;clear h;refine⟨fun h=>⟨fun _=>⟨_,qzb (.rfl _),(orK hK).1 h⟩,fun h'=>absurd (h.symm.trans h') (by decide)⟩,fun h=>?_⟩;replace hK:=(orK hK).2 h;clear h;refine⟨fun h=>⟨fun _=>⟨_,qzb (.rfl _),(orK hK).1 h⟩,fun h'=>absurd (h.symm.trans h') (by decide)⟩,fun h=>?_⟩;replace hK:=(orK hK).2 h;clear h;refine⟨fun h=>⟨fun _=>⟨_,qzb (.rfl _),(orK hK).1 h⟩,fun h'=>absurd (h.symm.trans h') (by decide)⟩,fun h=>?_⟩;replace hK:=(orK hK).2 h;clear h;refine⟨fun h=>⟨fun _=>⟨_,qzb (.rfl _),(orK hK).1 h⟩,fun h'=>absurd (h.symm.trans h') (by decide)⟩,fun h=>?_⟩;replace hK:=(orK hK).2 h;clear h;refine⟨fun h=>⟨fun _=>⟨_,qzb (.rfl _),(orK hK).1 h⟩,fun h'=>absurd (h.symm.trans h') (by decide)⟩,fun h=>?_⟩;replace hK:=(orK hK).2 h;clear h;refine⟨fun h=>⟨fun _=>⟨_,qzb (.rfl _),(orK hK).1 h⟩,fun h'=>absurd (h.symm.trans h') (by decide)⟩,fun h=>?_⟩;replace hK:=(orK hK).2 h;clear h;refine⟨fun h=>⟨fun _=>⟨_,qzb (.rfl _),(orK hK).1 h⟩,fun h'=>absurd (h.symm.trans h') (by decide)⟩,fun h=>?_⟩;replace hK:=(orK hK).2 h;clear h;refine⟨fun h=>⟨fun _=>⟨_,qzb (.rfl _),(orK hK).1 h⟩,fun h'=>absurd (h.symm.trans h') (by decide)⟩,fun h=>?_⟩;replace hK:=(orK hK).2 h;clear h;refine⟨fun h=>⟨fun _=>⟨_,qzb (.rfl _),(orK hK).1 h⟩,fun h'=>absurd (h.symm.trans h') (by decide)⟩,fun h=>?_⟩;replace hK:=(orK hK).2 h;clear h;refine⟨fun h=>⟨_,qzb (.rfl _),(orK hK).1 h⟩,fun h=>?_⟩;replace hK:=(orK hK).2 h;clear h;exact⟨_,qzb (.rfl _),hK⟩
def yzn:qzP:=fun ys bx Kr _=>∃(l:Bs) (i j:Nat),ys=[.d (.st l),iD i,iD j]/\i<=j/\j<=l.length/\l.length<=16777216/\
 (16<j-i->Kr (.tup [.d (qqa ⟨0,[],0,0⟩),iD 13]) nix none)/\
 (j-i<=16->Kr (.tup [.d (qqa ⟨if Lg.wxa ((l.take j).drop i)then 2 else 1,(l.take j).drop i,0,i⟩),iD 0]) nix none)
theorem wjy:OK Tryz.prog 77 yzn:=by
 refine fn_OK' qzu (E:=EV) (sp:=spL [(121,yvz)]) qzt qzl (OKs.ok ⟨wqZ,trivial⟩) func77 rfl ntmps77 results77 call77 [] none ?_;rintro ys bx Kr Kp ⟨l,i,j,rfl,hi,hj,hl,hK1,hK2⟩;refine⟨[],rfl,trivial,by simp,?_⟩;have hlen:((l.take j).drop i).length=j-i:=by{simp;omega};simp only[hlen,lA,go_sem];refine⟨by omega,by omega,by omega,by omega,fun h=>?_,fun h=>?_⟩;exact⟨_,.cons (.rfl _) (.cons (.rfl _) .nil),hK1 (by have:=lF h;omega)⟩;{refine⟨_,rfl,?_⟩;have hK:=hK2 (by have:=lG h;omega);simp only[go_sem];refine⟨fun h2=>?_,fun h2=>?_⟩;{rw[if_pos h2]at hK;exact⟨_,.cons (.rfl _) (.cons (.rfl _) .nil),hK⟩};{rw[if_neg (by rw[h2];decide)]at hK;exact⟨_,.cons (.rfl _) (.cons (.rfl _) .nil),hK⟩}}
def wq1:qzP:=fun ys bx Kr _=>∃l p:Bs,ys=[.d (.st l),.d (.st p)]/\Kr (.d (.bool (p.isPrefixOf l))) nix none
theorem qw2 {p l:Bs}(h:p.length<=l.length):p.isPrefixOf l=((l.take p.length).drop 0==p):=by
 rw[List.drop_zero,Bool.eq_iff_iff,beq_iff_eq,List.isPrefixOf_iff_prefix,List.prefix_iff_eq_take];exact⟨fun h=>h.symm,fun h=>h.symm⟩
theorem qw3 {p l:Bs}(h:l.length<p.length):p.isPrefixOf l=false:=by
 rw[Bool.eq_false_iff];intro e;rw[List.isPrefixOf_iff_prefix]at e;have:=e.length_le;omega
theorem zwo:OK Tryz.prog 147 wq1:=by
 refine fn_OK' qzu (E:=EV) (sp:=spL []) qzt qzl (OKs.ok trivial) func147 rfl ntmps147 results147 call147 [] none ?_;rintro ys bx Kr Kp ⟨l,p,rfl,hK⟩;refine⟨[],rfl,trivial,by simp,?_⟩;simp only[lA,go_sem];refine⟨fun h=>?_,fun h=>?_⟩;{have hle:p.length<=l.length:=by{have:=lF h;omega};rw[qw2 hle]at hK;exact⟨by omega,by omega,_,qzb (.rfl _),hK⟩};{have hlt:l.length<p.length:=by{have:=lG h;omega};rw[qw3 hlt]at hK;exact⟨_,qzb (.rfl _),hK⟩}
theorem wkl:OK Tryz.prog 122 wq1:=by
 refine fn_OK' qzu (E:=EV) (sp:=spL [(147,wq1)]) qzt qzl (OKs.ok ⟨zwo,trivial⟩) func122 rfl ntmps122 results122 call122 [] none ?_;rintro ys bx Kr Kp ⟨l,p,rfl,hK⟩;refine⟨[],rfl,trivial,by simp,?_⟩;simp only[go_sem];refine⟨l,p,rfl,?_⟩;simp only[go_sem];exact⟨_,qzb (.rfl _),hK⟩
def yv3:qzP:=fun ys bx Kr _=>∃(l:Bs) (c:UInt8),ys=[.d (.st l),.d (.int .u8 (c.toNat:Int))]/\∀i:Int,(0<=i↔l.contains c=true)->Kr (iD i) nix none
def yku:Nat->Bs
 |0=>Lg.wxH
 |1=>Lg.sLe
 |_=>Lg.wqo
def zzM (l:Bs):Nat->Bs
 |0=>Lg.yks l
 |1=>if Lg.sLe.isPrefixOf l then Lg.sLe else if Lg.wqo.isPrefixOf l then Lg.wqo else match l with
  |[]=>[]
  |b::_=>if Lg.kkm.contains b then [b]else []
 |2=>if Lg.wqo.isPrefixOf l then Lg.wqo else match l with
  |[]=>[]
  |b::_=>if Lg.kkm.contains b then [b]else []
 |_=>match l with
  |[]=>[]
  |b::_=>if Lg.kkm.contains b then [b]else []
theorem zxO (l:Bs){i:Nat}(h:i<3):zzM l i=if(yku i).isPrefixOf l then yku i else zzM l (i+1):=by
 match i,h with|0,_=>{rfl}|1,_=>{rfl}|2,_=>{rfl}
def yzK:qzP:=fun ys bx Kr _=>∃l:Bs,ys=[.d (.st l)]/\l≠[]/\Kr (.d (.st (Lg.yks l))) nix none
theorem wjH (hidx:OK Tryz.prog 123 yv3):OK Tryz.prog 79 yzK:=by
 refine fn_OK' qzu (E:=EV) (sp:=spL [(122,wq1),(123,yv3)]) qzt qzl (OKs.ok ⟨wkl,⟨hidx,trivial⟩⟩) func79 rfl ntmps79 results79 call79 [] none ?_;rintro ys bx Kr Kp ⟨l,rfl,hne,hK⟩;refine⟨[],rfl,trivial,by simp,?_⟩;simp only[go_sem];refine qzj (T:={i:Nat //i<=3/\Kr (.d (.st (zzM l i))) nix none}) (fun i=>⟨20,put 0 (.d (.st l)) (put 5 (.d (.ag [.st [45,62],.st [60,61],.st [61,61]])) (put 6 (iD i.1) nix)),nix,nix⟩) (fun i=>3-i.1) ⟨0,by omega,hK⟩ ⟨rfl,sP3 qza,qza,fun _ _ h=>h⟩ ?_;rintro⟨i,hi,hK⟩;simp only[go_sem];refine⟨fun h=>?_,fun h=>?_⟩;{have h3:i<3:=by{have:=lF h;omega};have e:([.d (.st [45,62]),.d (.st [60,61]),.d (.st [61,61])]:List LV)[(i:Int).toNat*1]?=some (.d (.st (yku i))):=by{match i,h3 with|0,_=>{rfl}|1,_=>{rfl}|2,_=>{rfl}};refine⟨by omega,by omega,zvH e ?_⟩;rw[zxO l h3]at hK;simp only[go_sem];refine⟨l,yku i,rfl,?_⟩;simp only[go_sem];refine⟨fun h=>?_,fun h=>?_⟩;{rw[if_pos h]at hK;exact⟨_,qzb (.rfl _),hK⟩};{rw[if_neg (by rw[h];decide)]at hK;exact⟨⟨by omega,by omega⟩,⟨i+1,by omega,hK⟩,⟨rfl,sP3 qza,qza,fun _ _ h=>h⟩,by show 3-(i+1)<3-i;omega⟩}};{have h3:i=3:=by{have:=lG h;omega};subst h3;obtain⟨b,r,rfl⟩:∃b r,l=b::r:=by{cases l with|nil=>{exact absurd rfl hne}|cons b r=>{exact⟨b,r,rfl⟩}};replace hK:Kr (.d (.st (if Lg.kkm.contains b then [b]else []))) nix none:=hK;simp only[go_sem];refine⟨by omega,Lg.kkm,b,rfl,fun i hi=>?_⟩;simp only[go_sem];refine⟨fun h=>?_,fun h=>?_⟩;{rw[if_pos (hi.1 (by have:=lF h;omega))]at hK;exact⟨by omega,_,qzb (.rfl _),hK⟩};{rw[if_neg (fun e=>by have:=lG h;have:=hi.2 e;omega)]at hK;exact⟨_,qzb (.rfl _),hK⟩}}
def wq2:qzP:=fun ys bx Kr _=>∃l:Bs,ys=[.d (.st l),iD 10,iD 64]/\l≠[]/\l.all Lg.qkC=true/\l.length<=16777216/\
 (Lg.dec l<=9223372036854775807->Kr (.tup [iD (Lg.dec l),.d (.imm .nilIface)]) nix none)/\
 (9223372036854775807<Lg.dec l->∀(n:Int) (t:TypeId) (x:D),Kr (.tup [iD n,.d (.ifc t x)]) nix none)
def zw5:qzP:=fun ys bx Kr _=>∃(l:Bs) (i j:Nat),ys=[.d (.st l),iD i,iD j]/\i<j/\j<=l.length/\l.length<=16777216/\((l.take j).drop i).all Lg.qkC=true/\
 ((decide (1099511627776<Lg.dec ((l.take j).drop i))||(decide (1<j-i)&&l[i]?==some 48)||Lg.zqk (l.drop j))=true->Kr (.tup [.d (qqa ⟨0,[],0,0⟩),iD 12]) nix none)/\
 ((decide (1099511627776<Lg.dec ((l.take j).drop i))||(decide (1<j-i)&&l[i]?==some 48)||Lg.zqk (l.drop j))=false->Kr (.tup [.d (qqa ⟨3,(l.take j).drop i,Lg.dec ((l.take j).drop i),i⟩),iD 0]) nix none)
theorem qvd {α:Type}{o:Option α}{x:α}{K:α->Prop}{w:Ph K}(h:o=some x)(hk:K x):wjg o K w:=by
 subst h;rw[zwZ];exact hk
theorem zjc (hpi:OK Tryz.prog 120 wq2):OK Tryz.prog 75 zw5:=by
 refine fn_OK' qzu (E:=EV) (sp:=spL [(120,wq2),(76,(qkH Lg.qvb))]) qzt qzl (OKs.ok ⟨hpi,⟨qwy,trivial⟩⟩) func75 rfl ntmps75 results75 call75 [] none ?_;rintro ys bx Kr Kp ⟨l,i,j,rfl,hi,hj,hl,hall,hK1,hK2⟩;refine⟨[],rfl,trivial,by simp,?_⟩;have hlen:((l.take j).drop i).length=j-i:=by{simp;omega};simp only[lA,go_sem];refine⟨by omega,by omega,by omega,by omega,(l.take j).drop i,rfl,?_,hall,by omega,fun hd=>?_,fun hd n t x=>?_⟩;{intro e;rw[e]at hlen;simp at hlen;omega};{simp only[go_sem];refine⟨fun h=>?_,fun h=>?_⟩;{rw[show decide (1099511627776<Lg.dec ((l.take j).drop i))=true by rw[decide_eq_true_eq]at h⊢;omega]at hK1;exact⟨_,.cons (.rfl _) (.cons (.rfl _) .nil),hK1 (by simp)⟩};{have hb:decide (1099511627776<Lg.dec ((l.take j).drop i))=false:=by{rw[decide_eq_false_iff_not]at h⊢;omega};rw[hb]at hK1 hK2;have h0:1<j-i->((l.take j).drop i)[0]?=l[i]?:=fun h=>by{rw[List.getElem?_drop,List.getElem?_take];simp;omega};have hhd:∀h:j<l.length,Lg.zqk (l.drop j)=Lg.qvb l[j]:=fun h=>by{rw[List.drop_eq_getElem_cons h];rfl};have hnd:¬j<l.length->Lg.zqk (l.drop j)=false:=fun h=>by{rw[List.drop_eq_nil_of_le (by omega)];rfl};refine⟨fun h1=>?_,fun h1=>?_⟩;{have h1':1<j-i:=by{have:=lF h1;omega};have hil:i<l.length:=by{omega};refine⟨by omega,qvd ((h0 h1').trans (lD hil)) ?_⟩;rw[lD hil,decide_eq_true h1']at hK1 hK2;simp only[lA,go_sem];refine⟨fun h4=>?_,fun h4=>?_⟩;{have:l[i]=48:=UInt8.toNat_inj.1 (by have:=eq_of_beq h4;show l[i].toNat=48;omega);exact⟨_,.cons (.rfl _) (.cons (.rfl _) .nil),hK1 (by simp[this])⟩};{have hz:(true&&some l[i]==some 48)=false:=by{rw[Bool.true_and,Bool.eq_false_iff];intro e;have e1:l[i]=48:=by{simpa using e};rw[e1]at h4;exact absurd h4 (by decide)};rw[hz,Bool.or_false,Bool.false_or]at hK1 hK2;refine⟨fun h2=>?_,fun h2=>?_⟩;{have hjl:j<l.length:=by{have:=lF h2;omega};refine⟨by omega,by omega,qvd (lD (by simpa using hjl)) ?_⟩;rw[hhd hjl]at hK1 hK2;simp only[lA,go_sem];refine⟨l[j],rfl,?_⟩;simp only[lA,go_sem];refine⟨fun h3=>?_,fun h3=>?_⟩;exact⟨_,.cons (.rfl _) (.cons (.rfl _) .nil),hK1 h3⟩;exact⟨_,.cons (.rfl _) (.cons (.rfl _) .nil),hK2 h3⟩};{have hjl:¬j<l.length:=by{have:=lG h2;omega};exact⟨_,.cons (.rfl _) (.cons (.rfl _) .nil),hK2 (hnd hjl)⟩}}};{have h1':¬1<j-i:=by{have:=lG h1;omega};have hz:(decide (1<j-i)&&l[i]?==some 48)=false:=by{rw[decide_eq_false h1'];rfl};rw[hz,Bool.or_false,Bool.false_or]at hK1 hK2;refine⟨fun h2=>?_,fun h2=>?_⟩;{have hjl:j<l.length:=by{have:=lF h2;omega};refine⟨by omega,by omega,qvd (lD (by simpa using hjl)) ?_⟩;rw[hhd hjl]at hK1 hK2;simp only[lA,go_sem];refine⟨l[j],rfl,?_⟩;simp only[lA,go_sem];refine⟨fun h3=>?_,fun h3=>?_⟩;exact⟨_,.cons (.rfl _) (.cons (.rfl _) .nil),hK1 h3⟩;exact⟨_,.cons (.rfl _) (.cons (.rfl _) .nil),hK2 h3⟩};{have hjl:¬j<l.length:=by{have:=lG h2;omega};exact⟨_,.cons (.rfl _) (.cons (.rfl _) .nil),hK2 (hnd hjl)⟩}}}};{rw[show decide (1099511627776<Lg.dec ((l.take j).drop i))=true by rw[decide_eq_true_eq];omega]at hK1;simp only[go_sem];exact⟨_,.cons (.rfl _) (.cons (.rfl _) .nil),hK1 (by simp)⟩}
def zv5:qzP:=fun ys bx Kr _=>∃l,ys=[.d (.st l)]/\match Lg.jqv l with
 |.ok ts=>qjk ts->Kr (.tup [.d (.sl 4 (ts.map qqa) false),iD 0,iD 0]) nix none
 |.error (a,c)=>c≠0->Kr (.tup [.d (.sl 4 [] false),iD a,iD c]) nix none
end Lx
namespace Go.Proofs
open Go.Shelf
def Tryz.lays137_ren:Go.Shelf.Ren:=⟨fun|137=>123|217=>148|266=>169|n=>n,fun|9=>9|5=>5|3=>3|n=>n,fun|n=>n⟩
theorem Tryz.lays137:Go.Proofs.Lays.n137 Tryz.prog Tryz.lays137_ren:={
 mixed:=by kernel_rfl
 f137:=Tryz.func123.trans (congrArg some (by kernel_rfl))
 f217:=Tryz.func148.trans (congrArg some (by kernel_rfl))
 f266:=Tryz.func169.trans (congrArg some (by kernel_rfl))
 t3:=Tryz.underlying3
 a3:=Tryz.isAgg3
 z3:=Tryz.sizeOf3
 v3:=Tryz.zeroValue3
 t5:=Tryz.underlying5
 a5:=Tryz.isAgg5
 z5:=Tryz.sizeOf5
 v5:=Tryz.zeroValue5
 t9:=Tryz.underlying9
 a9:=Tryz.isAgg9
 z9:=Tryz.sizeOf9
 v9:=Tryz.zeroValue9}
open Go.RowKit in
theorem Tryz.strings_IndexByte (s:ByteArray)(c:Int)(w:World):
  Calls Tryz.prog 123 #[.string s,.int .u8 c] w fun e w'=>e=.returned (.int .i64 (Lib.indexByte s.data.toList c.toNat.toUInt8))/\w'=w:=Any.strings_IndexByte Tryz.lays137 s c w
def Tryz.laysC174_ren:Go.Shelf.Ren:=⟨fun|174=>120|247=>145|245=>146|287=>164|279=>165|280=>166|281=>167|282=>168|321=>174|322=>175|316=>176|171=>178|205=>177|243=>180|246=>181|283=>182|284=>183|285=>184|286=>185|129=>187|317=>186|318=>188|319=>189|320=>190|337=>191|338=>192|n=>n,fun|9=>9|3=>3|2=>2|75=>236|85=>237|4=>4|167=>271|5=>5|53=>272|175=>273|46=>275|168=>276|37=>281|0=>0|210=>283|21=>21|127=>288|145=>291|143=>289|171=>293|173=>296|212=>300|51=>301|20=>20|213=>302|232=>306|233=>307|80=>243|n=>n,fun|15=>0|16=>1|17=>3|18=>4|19=>5|n=>n⟩
theorem Tryz.laysC174:Go.Proofs.LaysC.n174 Tryz.prog Tryz.laysC174_ren:={
 mixed:=by kernel_rfl
 f129:=Tryz.func187.trans (congrArg some (by kernel_rfl))
 f171:=Tryz.func178.trans (congrArg some (by kernel_rfl))
 f174:=Tryz.func120.trans (congrArg some (by kernel_rfl))
 f205:=Tryz.func177.trans (congrArg some (by kernel_rfl))
 f243:=Tryz.func180.trans (congrArg some (by kernel_rfl))
 f245:=Tryz.func146.trans (congrArg some (by kernel_rfl))
 f246:=Tryz.func181.trans (congrArg some (by kernel_rfl))
 f247:=Tryz.func145.trans (congrArg some (by kernel_rfl))
 f279:=Tryz.func165.trans (congrArg some (by kernel_rfl))
 f280:=Tryz.func166.trans (congrArg some (by kernel_rfl))
 f281:=Tryz.func167.trans (congrArg some (by kernel_rfl))
 f282:=Tryz.func168.trans (congrArg some (by kernel_rfl))
 f283:=Tryz.func182.trans (congrArg some (by kernel_rfl))
 f284:=Tryz.func183.trans (congrArg some (by kernel_rfl))
 f285:=Tryz.func184.trans (congrArg some (by kernel_rfl))
 f286:=Tryz.func185.trans (congrArg some (by kernel_rfl))
 f287:=Tryz.func164.trans (congrArg some (by kernel_rfl))
 f316:=Tryz.func176.trans (congrArg some (by kernel_rfl))
 f317:=Tryz.func186.trans (congrArg some (by kernel_rfl))
 f318:=Tryz.func188.trans (congrArg some (by kernel_rfl))
 f319:=Tryz.func189.trans (congrArg some (by kernel_rfl))
 f320:=Tryz.func190.trans (congrArg some (by kernel_rfl))
 f321:=Tryz.func174.trans (congrArg some (by kernel_rfl))
 f322:=Tryz.func175.trans (congrArg some (by kernel_rfl))
 f337:=Tryz.func191.trans (congrArg some (by kernel_rfl))
 f338:=Tryz.func192.trans (congrArg some (by kernel_rfl))
 t0:=Tryz.underlying0
 a0:=Tryz.isAgg0
 z0:=Tryz.sizeOf0
 v0:=Tryz.zeroValue0
 t2:=Tryz.underlying2
 a2:=Tryz.isAgg2
 z2:=Tryz.sizeOf2
 v2:=Tryz.zeroValue2
 t3:=Tryz.underlying3
 a3:=Tryz.isAgg3
 z3:=Tryz.sizeOf3
 v3:=Tryz.zeroValue3
 t4:=Tryz.underlying4
 a4:=Tryz.isAgg4
 z4:=Tryz.sizeOf4
 v4:=Tryz.zeroValue4
 t5:=Tryz.underlying5
 a5:=Tryz.isAgg5
 z5:=Tryz.sizeOf5
 v5:=Tryz.zeroValue5
 t9:=Tryz.underlying9
 a9:=Tryz.isAgg9
 z9:=Tryz.sizeOf9
 v9:=Tryz.zeroValue9
 t20:=Tryz.underlying20
 a20:=Tryz.isAgg20
 z20:=Tryz.sizeOf20
 v20:=Tryz.zeroValue20
 t21:=Tryz.underlying21
 a21:=Tryz.isAgg21
 z21:=Tryz.sizeOf21
 v21:=Tryz.zeroValue21
 t37:=Tryz.underlying281
 a37:=Tryz.isAgg281
 z37:=Tryz.sizeOf281
 v37:=Tryz.zeroValue281
 t46:=Tryz.underlying275
 a46:=Tryz.isAgg275
 z46:=Tryz.sizeOf275
 v46:=Tryz.zeroValue275
 t51:=Tryz.underlying301
 a51:=Tryz.isAgg301
 z51:=Tryz.sizeOf301
 v51:=Tryz.zeroValue301
 t53:=Tryz.underlying272
 a53:=Tryz.isAgg272
 z53:=Tryz.sizeOf272
 v53:=Tryz.zeroValue272
 t75:=Tryz.underlying236
 a75:=Tryz.isAgg236
 z75:=Tryz.sizeOf236
 v75:=Tryz.zeroValue236
 t85:=Tryz.underlying237
 a85:=Tryz.isAgg237
 z85:=Tryz.sizeOf237
 v85:=Tryz.zeroValue237
 t127:=Tryz.underlying288
 a127:=Tryz.isAgg288
 z127:=Tryz.sizeOf288
 v127:=Tryz.zeroValue288
 t143:=Tryz.underlying289
 a143:=Tryz.isAgg289
 z143:=Tryz.sizeOf289
 v143:=Tryz.zeroValue289
 t145:=Tryz.underlying291
 a145:=Tryz.isAgg291
 z145:=Tryz.sizeOf291
 v145:=Tryz.zeroValue291
 t167:=Tryz.underlying271
 a167:=Tryz.isAgg271
 z167:=Tryz.sizeOf271
 v167:=Tryz.zeroValue271
 t168:=Tryz.underlying276
 a168:=Tryz.isAgg276
 z168:=Tryz.sizeOf276
 v168:=Tryz.zeroValue276
 t171:=Tryz.underlying293
 a171:=Tryz.isAgg293
 z171:=Tryz.sizeOf293
 v171:=Tryz.zeroValue293
 t173:=Tryz.underlying296
 a173:=Tryz.isAgg296
 z173:=Tryz.sizeOf296
 v173:=Tryz.zeroValue296
 t175:=Tryz.underlying273
 a175:=Tryz.isAgg273
 z175:=Tryz.sizeOf273
 v175:=Tryz.zeroValue273
 t210:=Tryz.underlying283
 a210:=Tryz.isAgg283
 z210:=Tryz.sizeOf283
 v210:=Tryz.zeroValue283
 t212:=Tryz.underlying300
 a212:=Tryz.isAgg300
 z212:=Tryz.sizeOf300
 v212:=Tryz.zeroValue300
 t213:=Tryz.underlying302
 a213:=Tryz.isAgg302
 z213:=Tryz.sizeOf302
 t232:=Tryz.underlying306
 a232:=Tryz.isAgg306
 z232:=Tryz.sizeOf306
 v232:=Tryz.zeroValue306
 t233:=Tryz.underlying307
 a233:=Tryz.isAgg307
 z233:=Tryz.sizeOf307
 v233:=Tryz.zeroValue307
 g15:=by kernel_rfl
 g16:=by kernel_rfl
 g17:=by kernel_rfl
 g18:=by kernel_rfl
 g19:=by kernel_rfl
 t80:=Tryz.underlying243
 a80:=Tryz.isAgg243
 z80:=Tryz.sizeOf243
 v80:=Tryz.zeroValue243
 i0:=by kernel_rfl
 i2:=by kernel_rfl
 i3:=by kernel_rfl
 i4:=by kernel_rfl
 i5:=by kernel_rfl
 i9:=by kernel_rfl
 i20:=by kernel_rfl
 i21:=by kernel_rfl
 i37:=by kernel_rfl
 i46:=by kernel_rfl
 i51:=by kernel_rfl
 i53:=by kernel_rfl
 i75:=by kernel_rfl
 i80:=by kernel_rfl
 i85:=by kernel_rfl
 i127:=by kernel_rfl
 i143:=by kernel_rfl
 i145:=by kernel_rfl
 i167:=by kernel_rfl
 i168:=by kernel_rfl
 i171:=by kernel_rfl
 i173:=by kernel_rfl
 i175:=by kernel_rfl
 i210:=by kernel_rfl
 i212:=by kernel_rfl
 i232:=by kernel_rfl
 i233:=by kernel_rfl
 m15:=by kernel_rfl
 m16:=by kernel_rfl
 m17:=by kernel_rfl
 m18:=by kernel_rfl
 m19:=by kernel_rfl
 c0:=by kernel_rfl
 c2:=by kernel_rfl
 c3:=by kernel_rfl
 c4:=by kernel_rfl
 c5:=by kernel_rfl
 c9:=by kernel_rfl
 c20:=by kernel_rfl
 c21:=by kernel_rfl
 c37:=by kernel_rfl
 c46:=by kernel_rfl
 c51:=by kernel_rfl
 c53:=by kernel_rfl
 c75:=by kernel_rfl
 c80:=by kernel_rfl
 c85:=by kernel_rfl
 c127:=by kernel_rfl
 c143:=by kernel_rfl
 c145:=by kernel_rfl
 c167:=by kernel_rfl
 c168:=by kernel_rfl
 c171:=by kernel_rfl
 c173:=by kernel_rfl
 c175:=by kernel_rfl
 c210:=by kernel_rfl
 c212:=by kernel_rfl
 c213:=by kernel_rfl
 c232:=by kernel_rfl
 c233:=by kernel_rfl}
open Go.RowKit in
theorem Tryz.strconv_ParseInt_10_at64_ok (s:ByteArray)(hmax:s.size<=9223372036854775806)(v:Int)(h:Lib.parseIntB 64 s.data.toList=.ok v)(w:World):
  Calls Tryz.prog 120 #[.string s,.int .i64 10,.int .i64 64] w fun e w'=>e=.returned (.tuple #[.int .i64 v,.nilIface])/\(w'=w\/∃t,w'=Lib.bytesWorld w 5 t):=Any.strconv_ParseInt_10_at64_ok Tryz.laysC174 s hmax v h w
open Go.RowKit in
theorem Tryz.strconv_ParseInt_10_at64_range (s:ByteArray)(hlim:s.size<=281474976710656)(h:Lib.parseIntB 64 s.data.toList=.range)(ev:Value)(w:World)(hv:w.cell? ⟨1,0,none⟩=some ev)(hev:ev=.nilIface\/∃te pe,ev=.iface te pe):
  Calls Tryz.prog 120 #[.string s,.int .i64 10,.int .i64 64] w fun e w'=>∃N,e=.returned (.tuple #[.int .i64 (Lib.intSat 64 s.data.toList),.iface 276 (.pointer (some ⟨N,0,none⟩))])/\w.heap.size<=N/\w'.heap[N]?=some (.cells #[.string ⟨#[80,97,114,115,101,73,110,116]⟩,.string s,ev] 283 (0,0))/\Below w.heap.size w w':=Any.strconv_ParseInt_10_at64_range Tryz.laysC174 s hlim h ev w hv hev
end Go.Proofs
