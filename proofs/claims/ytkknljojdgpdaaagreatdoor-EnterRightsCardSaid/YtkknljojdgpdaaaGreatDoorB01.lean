import Derived.Test.YtkknljojdgpdaaaGreatDoorB00
import Derived.Laws.Tables
import Derived.Laws.Small
set_option maxHeartbeats 32000000
set_option linter.unusedSimpArgs false
set_option linter.unusedVariables false
namespace Lx
open Go
def sm {α:Type}(o:Option α)(K:α->Prop):Prop:=∃x,o=some x/\K x
@[go_sem]theorem qxL {α:Type}(x:α)(K:α->Prop):sm (some x) K=K x:=by simp[sm]
@[go_sem]theorem qxM {α:Type}(K:α->Prop):sm none K=False:=by simp[sm]
def cvd:Value->D
 |.int k n=>.int k n
 |.bool b=>.bool b
 |.string s=>.st s.data.toList
 |v=>.imm v
def cv:Value->LV
 |.agg cs=>.d (.ag (cs.toList.map cvd))
 |v=>.d (cvd v)
theorem zk6 (Φ:Nat->Nat->Option Value)(v:Value):Rp Φ (cvd v) v:=by
 cases v<;>simp only[cvd]<;>first|exact .int _ _|exact .bool _|exact .imm _|exact .st _
theorem zq0 (Φ:Nat->Nat->Option Value):∀vs:List Value,Rps Φ (vs.map cvd) vs
 |[]=>.nil
 |v::vs=>.cons (zk6 Φ v) (zq0 Φ vs)
theorem wzr (g:Gh)(v:Value):LRp g (cv v) v:=by
 cases v with|agg cs=>{simp only[cv];have:=Rp.ag (zq0 g.Φ cs.toList);exact .d (by simpa using this)}|_=>{exact .d (zk6 _ _)}
def S.ev (s:S):Operand->Option LV
 |.tmp t=>s.tm t
 |.const v=>some (cv v)
 |.global _=>none
 |.func f=>some (.fn (.func f) [] [])
theorem qzH {z:Bg}{g:Gh}{ds:List Deferred}{s:S}{a:Act}{w:World}(h:R z g ds s a w){o:Operand}{x:LV}(hx:s.ev o=some x):LRp g x (a.eval o):=by
 cases o with|tmp t=>{exact(h.tm t x hx).2}|const v=>{simp only[S.ev,Option.some.injEq]at hx;subst hx;exact wzr g v}|global g=>{simp[S.ev]at hx}|func f=>{simp only[S.ev,Option.some.injEq]at hx;subst hx;exact .fn (.func f) .nil .nil}
def qqg:LV->Option (List LV)
 |.d (.ag xs)=>some (xs.map .d)
 |.ag xs=>some xs
 |_=>none
theorem qkZ {g:Gh}{x:LV}{v:Value}{xs:List LV}(h:LRp g x v)(hx:qqg x=some xs):∃vs,v=.agg vs.toArray/\LRps g xs vs:=by
 (cases x<;>simp only[qqg]at hx<;>try(cases hx;done));{rename_i x;(cases x<;>simp only[qqg]at hx<;>try(cases hx;done));simp only[Option.some.injEq]at hx;subst hx;cases h with|d h=>{cases h with|ag h=>{exact⟨_,rfl,LRps.ofD h⟩}}};{simp only[Option.some.injEq]at hx;subst hx;cases h with|ag h=>{exact⟨_,rfl,h⟩}}
def allD:List LV->Option (List D)
 |[]=>some []
 |.d x::xs=>(allD xs).map (x:: ·)
 |_::_=>none
theorem qv8:∀{xs:List LV} {ds:List D},allD xs=some ds->xs=ds.map .d
 |[],ds,h=>by simp[allD]at h;subst h;rfl
 |.d x::xs,ds,h=>by
   simp only[allD,Option.map_eq_some_iff]at h;obtain⟨ds',h',rfl⟩:=h;simp[qv8 h']
 |.bp _ _::_,_,h|.os _ _ _::_,_,h|.ap _ _ _ _ _::_,_,h|.ep _ _::_,_,h|.ag _::_,_,h|.fn _ _ _::_,_,h|.tup _::_,_,h|.mp _::_,_,h|.un::_,_,h=>by simp[allD]at h
def mk (xs:List LV):LV:=match allD xs with
 |some ds=>.d (.ag ds)
 |none=>.ag xs
theorem wkM {g:Gh}{xs:List LV}{vs:List Value}(h:LRps g xs vs):LRp g (mk xs) (.agg vs.toArray):=by
 unfold mk;split;{rename_i ds hd;have:=qv8 hd;subst this;exact .d (.ag h.toD)};exact .ag h
def one:LV->Bool
 |.d (.ag _)|.ag _|.tup _|.un=>false
 |.d (.imm x)=>x.oneCell'
 |_=>true
theorem qwr {g:Gh}{x:LV}{v:Value}(h:LRp g x v)(h1:one x=true):v.oneCell'=true:=by
 cases h with|d h=>{cases h<;>first|rfl|(simp[one]at h1;done)|(simpa[one]using h1)}|bp=>{rfl}|os h1' _=>{exact h1'}|ap h1' _=>{exact h1'}|ep=>{rfl}|ag=>{simp[one]at h1}|fn=>{rfl}|tup=>{simp[one]at h1}|mp=>{rfl}|un=>{simp[one]at h1}
theorem qji {v:Value}(h:v.oneCell'=true):v.cells=#[v]:=by
 cases v<;>first|rfl|(simp[Value.oneCell']at h)
def prt (i:TI)(off:Nat)(xs:List LV):Option LV:=
 if i.agg then(if off+i.size<=xs.length then some (mk ((xs.drop off).take i.size))else none)else xs[off]?
structure Env where
 tl:List (Nat×TI)
 wrap:Bool
 own:Nat->Bool
 vis:Nat->Bool
 hp:Bool:=false
 st:Nat->Bool:=fun _=>false
def Env.ti (E:Env)(t:TypeId):Option TI:=lkp t E.tl
def D.lcs:D->List LV
 |.ag xs=>xs.map .d
 |x=>[.d x]
def D.flat:D->Bool
 |.imm x=>x.oneCell'
 |_=>true
def LV.sp:LV->Option (Nat×Nat)
 |.d (.imm (.pointer (some ⟨b,o,none⟩)))=>some (b,o)
 |_=>none
def LV.ss:LV->Option (Nat×Nat×Nat×Nat)
 |.d (.imm (.slice (some ⟨b,o,none⟩) n c))=>some (b,o,n,c)
 |_=>none
class Stb (E:Env) (z:Bg):Prop where
 h:E.hp=true->∀k,1000000<=k->z.g.β k=k-1000000
theorem Stb.get {E:Env}{z:Bg}[i:Stb E z] (he:E.hp=true){g:Gh}{bx:Bx}{ar:Ar}{w:World}(h:Rw z g bx ar w)(b:Nat):g.β (b+1000000)=b:=by
 rw[h.keys _ (by omega),i.h he _ (by omega)];omega
theorem LV.sp_eq {x:LV}{p:Nat×Nat}(h:x.sp=some p):x=.d (.imm (.pointer (some ⟨p.1,p.2,none⟩))):=by
 unfold LV.sp at h;split at h;{simp only[Option.some.injEq]at h;subst h;rfl};{cases h}
theorem LV.ss_eq {x:LV}{p:Nat×Nat×Nat×Nat}(h:x.ss=some p):x=.d (.imm (.slice (some ⟨p.1,p.2.1,none⟩) p.2.2.1 p.2.2.2)):=by
 unfold LV.ss at h;split at h;{simp only[Option.some.injEq]at h;subst h;rfl};{cases h}
def ldK (s:S)(i:TI)(x:LV)(K:LV->Prop):Prop:=
 match x with
 |.bp k off=>sm (s.bx k) fun b=>b.ty<1000000/\sm (prt i off b.cells) K
 |.ep x off=>x.flat=true/\sm (prt i off x.lcs) K
 |.ap r sz n j o=>sm (s.ar r) fun a=>a.1=sz/\n=a.2.2.length/\j<n/\∀x,a.2.2[j]?=some x->x.flat=true/\sm (prt i o x.lcs) K
 |_=>False
def inr:IntKind->Int->Prop
 |.i8,n=> -128<=n/\n<=127
 |.i16,n=> -32768<=n/\n<=32767
 |.i32,n=> -2147483648<=n/\n<=2147483647
 |.i64,n=> -9223372036854775808<=n/\n<=9223372036854775807
 |.u8,n=>0<=n/\n<=255
 |.u16,n=>0<=n/\n<=65535
 |.u32,n=>0<=n/\n<=4294967295
 |.u64,n=>0<=n/\n<=18446744073709551615
def arK (E:Env)(k:IntKind)(n:Int)(K:LV->Prop):Prop:=
 if E.wrap then K (.d (.int k (k.wrap n)))else inr k n/\K (.d (.int k n))
def intK (E:Env)(op:BinOp)(k:IntKind)(a b:Int)(K:LV->Prop):Prop:=
 match op with
 |.add=>arK E k (a+b) K
 |.sub=>arK E k (a-b) K
 |.mul=>arK E k (a*b) K
 |.quo=>b≠0/\arK E k (a.tdiv b) K
 |.rem=>b≠0/\K (.d (.int k (a.tmod b)))
 |.eql=>K (.d (.bool (a==b)))
 |.neq=>K (.d (.bool (a != b)))
 |.lss=>K (.d (.bool (decide (a<b))))
 |.leq=>K (.d (.bool (decide (a<=b))))
 |.gtr=>K (.d (.bool (decide (b<a))))
 |.geq=>K (.d (.bool (decide (b<=a))))
 |_=>False
def stK (op:BinOp)(a b:Bs)(K:LV->Prop):Prop:=
 match op with
 |.add=>a.length+b.length<=9223372036854775807/\K (.d (.st (a++b)))
 |.eql=>K (.d (.bool (a==b)))
 |.neq=>K (.d (.bool (!(a==b))))
 |_=>False
def iiK (E:Env)(op:BinOp)(k:IntKind)(a:Int)(k':IntKind)(b:Int)(K:LV->Prop):Prop:=
 match op with
 |.shl=>0<=b/\K (.d (.int k (k.wrap (a*2^(min b.toNat k.bits)))))
 |.shr=>0<=b/\K (.d (.int k (a.fdiv (2^(min b.toNat k.bits)))))
 |_=>k=k'/\intK E op k a b K
def binK (E:Env)(op:BinOp)(t:TypeId)(x y:LV)(K:LV->Prop):Prop:=
 match x,y with
 |.d (.int k a),.d (.int k' b)=>iiK E op k a k' b K
 |.d (.st a),.d (.st b)=>stK op a b K
 |.d (.bool a),.d (.bool b)=>sm (E.ti t) fun i=>i.desc=.boo/\
   (match op with
   |.eql=>K (.d (.bool (a==b)))
   |.neq=>K (.d (.bool (!(a==b))))
   |_=>False)
 |_,_=>False
def eqK (op:BinOp)(r:Bool)(K:LV->Prop):Prop:=match op with
 |.eql=>K (.d (.bool r))
 |.neq=>K (.d (.bool (!r)))
 |_=>False
def isC:Operand->Bool
 |.const _=>true
 |_=>false
def TI.fields (i:TI):List (Nat×TypeId):=match i.desc with
 |.st fs=>fs
 |_=>[]
def wqn (d:Dk)(x y:D)(K:Bool->Prop):Prop:=
 match d,x,y with
 |.int _,.int k1 a,.int k2 b=>k1=k2/\K (a==b)
 |.str,.st a,.st b=>K (a==b)
 |.boo,.bool a,.bool b=>K (a==b)
 |_,_,_=>False
def wv2 (E:Env)(xs ys:List D):List (Nat×TypeId)->(Bool->Prop)->Prop
 |[],K=>K true
 |(o,t)::fs,K=>sm (E.ti t) fun i=>sm xs[o]? fun x=>sm ys[o]? fun y=>wqn i.desc x y fun r=>wv2 E xs ys fs fun q=>K (r&&q)
def zvt (E:Env)(c:Bool)(op:BinOp)(t:TypeId)(x y:LV)(K:LV->Prop):Prop:=
 match x,y with
 |.d (.imm .nilIface),.d (.imm .nilIface)=>c=true/\sm (E.ti t) fun i=>i.desc=.ifc/\eqK op true K
 |.d (.ifc _ _),.d (.imm .nilIface)=>sm (E.ti t) fun i=>i.desc=.ifc/\eqK op false K
 |.d (.imm .nilIface),.d (.ifc _ _)=>sm (E.ti t) fun i=>i.desc=.ifc/\eqK op false K
 |.d (.ifc t1 (.int k a)),.d (.ifc t2 (.int k' b))=>sm (E.ti t) fun i=>i.desc=.ifc/\t1=t2/\k=k'/\sm (E.ti t1) fun j=>j.desc=.int k/\j.cmp=true/\eqK op (a==b) K
 |.d (.ag xs),.d (.ag ys)=>sm (E.ti t) fun i=>i.cmp=true/\i.desc=.st i.fields/\wv2 E xs ys i.fields fun r=>eqK op r K
 |x,y=>binK E op t x y K
def slN:LV->LV->Option (Option Bool)
 |.d (.imm (.slice a _ _)),.d (.imm (.slice none _ _))=>some (some a.isNone)
 |.d (.sl _ (_::_) _),.d (.imm (.slice none _ _))=>some (some false)
 |.d (.sl _ [] _),.d (.imm (.slice none _ _))=>some none
 |_,_=>none
def yxG (E:Env)(c:Bool)(op:BinOp)(t:TypeId)(x y:LV)(K:LV->Prop):Prop:=
 match slN x y with
 |some (some b)=>sm (E.ti t) fun i=>(∃e,i.desc=.sli e)/\eqK op b K
 |some none=>sm (E.ti t) fun i=>(∃e,i.desc=.sli e)/\∀b,eqK op b K
 |none=>zvt E c op t x y K
def mvK (E:Env)(m:LV)(K:LV->Prop):Prop:=match m with
 |.d (.imm (.map (some b)))=>E.hp=true/\K (.mp (b+1000000))
 |m=>K m
def D.asl (sz:Nat):D->Option (List D×Bool)
 |.sl sz' xs f=>if sz'=sz then some (xs,f)else none
 |.imm (.slice none 0 0)=>some ([],true)
 |_=>none
def TI.str (i:TI):Bool:=match i.desc with
 |.st _=>true
 |_=>false
def fldOff (i:TI)(f:Nat):Option (Nat×TypeId):=i.fields[f]?
def wvf (E:Env)(s:S)(t:TypeId)(x:LV)(i:Int)(K:LV->Prop):Prop:=
 sm (E.ti t) fun ti=>
 match ti.desc with
 |.sli e=>sm (E.ti e) fun te=>
   match x with
   |.os r sz n=>sm (s.ar r) fun a=>n=a.2.2.length/\sz=te.size/\0<=i/\i<n/\K (.ap r sz n i.toNat 0)
   |.d x=>sm (x.asl te.size) fun p=>0<=i/\i<p.1.length/\∀y,p.1[i.toNat]?=some y->K (.ep y 0)
   |_=>False
 |.arr n e=>sm (E.ti e) fun te=>
   match x with
   |.bp k off=>0<=i/\i<n/\K (.bp k (off+i.toNat*te.size))
   |_=>False
 |_=>False
def ixK (E:Env)(s:S)(t:TypeId)(x:LV)(i:Int)(K:LV->Prop):Prop:=
 match x.ss with
 |some p=>sm (E.ti t) fun ti=>match ti.desc with
  |.sli e=>sm (E.ti e) fun te=>0<=i/\i<p.2.2.1/\K (.d (.imm (.pointer (some ⟨p.1,p.2.1+i.toNat*te.size,none⟩))))
  |_=>False
 |none=>wvf E s t x i K
def jjA (E:Env)(t:TypeId)(x:LV)(i:Int)(K:LV->Prop):Prop:=
 sm (E.ti t) fun ti=>
 match ti.desc with
 |.str=>match x with
   |.d (.st b)=>0<=i/\i<b.length/\∀c,b[i.toNat]?=some c->K (.d (.int .u8 c.toNat))
   |_=>False
 |.arr n e=>sm (E.ti e) fun te=>sm (qqg x) fun xs=>0<=i/\i<n/\sm (prt te (i.toNat*te.size) xs) K
 |_=>False
def hiK (s:S)(len:Nat)(hi:Option Operand)(K:Nat->Prop):Prop:=
 match hi with
 |none=>K len
 |some o=>sm (s.ev o) fun x=>match x with
  |.d (.int _ n)=>0<=n/\n<=len/\K n.toNat
  |_=>False
def loK (s:S)(u:Nat)(lo:Option Operand)(K:Nat->Prop):Prop:=
 match lo with
 |none=>K 0
 |some o=>sm (s.ev o) fun x=>match x with
  |.d (.int _ n)=>0<=n/\n<=u/\K n.toNat
  |_=>False
def bndK (s:S)(len:Nat)(lo hi:Option Operand)(K:Nat->Nat->Prop):Prop:=hiK s len hi fun u=>loK s u lo fun l=>K l u
def wxD (E:Env)(s:S)(t:TypeId)(x:LV)(lo hi:Option Operand)(K:LV->Prop):Prop:=
 sm (E.ti t) fun ti=>
 match ti.desc with
 |.str=>match x with
   |.d (.st b)=>bndK s b.length lo hi fun l h=>K (.d (.st ((b.take h).drop l)))
   |_=>False
 |.sli e=>sm (E.ti e) fun te=>match x with
   |.d x=>sm (x.asl te.size) fun p=>bndK s p.1.length lo hi fun l h=>K (.d (.sl te.size ((p.1.take h).drop l) false))
   |_=>False
 |_=>False
def zxp (E:Env)(s:S)(t:TypeId)(x:LV)(K:LV->Prop):Prop:=
 sm (E.ti t) fun ti=>
 match ti.desc with
 |.str=>match x with
   |.d (.st b)=>K (.d (.int .i64 b.length))
   |_=>False
 |.sli e=>sm (E.ti e) fun te=>match x with
   |.d x=>sm (x.asl te.size) fun p=>K (.d (.int .i64 p.1.length))
   |.os r _ n=>sm (s.ar r) fun a=>n=a.2.2.length/\K (.d (.int .i64 n))
   |_=>False
 |_=>False
def zjk (E:Env)(s:S)(t:TypeId)(x:LV)(K:LV->Prop):Prop:=
 match x.ss with
 |some p=>sm (E.ti t) fun ti=>match ti.desc with
  |.sli e=>sm (E.ti e) fun _=>K (.d (.int .i64 p.2.2.1))
  |_=>False
 |none=>zxp E s t x K
def wkR (E:Env)(s:S)(t:TypeId)(x:LV)(K:LV->Prop):Prop:=match x with
 |.mp j=>sm (E.ti t) fun ti=>match ti.desc with
   |.map _ _=>sm (s.bx j) fun b=>b.ty=1000000/\K (.d (.int .i64 (b.cells.length /2:Nat)))
   |_=>False
 |x=>zjk E s t x K
def wzG (E:Env)(t:TypeId)(x u v:LV)(K:LV->Prop):Prop:=
 match u,v with
 |.d (.int _ n),.d (.int _ m)=>n=m/\sm (E.ti t) fun ti=>match ti.desc with
   |.sli e=>sm (E.ti e) fun te=>match x.ss with
     |some p=>n=p.2.2.1/\0<p.2.2.1/\p.2.2.1<=p.2.2.2/\K (.d (.imm (.slice (some ⟨p.1,p.2.1,none⟩) p.2.2.1 p.2.2.1)))
     |none=>match x with
      |.d x=>sm (x.asl te.size) fun q=>n=q.1.length/\K (.d (.sl te.size q.1 true))
      |_=>False
   |_=>False
 |_,_=>False
def pcs (x:LV):Option (List LV):=match qqg x with
 |some cs=>some cs
 |none=>if one x then some [x]else none
def fillP (place:Nat->Option (Nat×Nat))(cells:List LV):List (Nat×LV)->Option (List LV)
 |[]=>some cells
 |(i,x)::rest=>match place i,pcs x with
   |some (off,size),some cs=>if cs.length=size/\off+cs.length<=cells.length then fillP place (cells.take off++cs++cells.drop (off+cs.length)) rest else none
   |_,_=>none
def S.evs (s:S):List (Nat×Operand)->Option (List (Nat×LV))
 |[]=>some []
 |(i,o)::r=>match s.ev o,s.evs r with
   |some x,some xs=>some ((i,x)::xs)
   |_,_=>none
def vcs (v:Value):List LV:=match cv v with
 |.d x=>x.lcs
 |x=>[x]
def place (E:Env)(i:TI)(n:Nat):Option (Nat×Nat):=(i.fields[n]?).bind fun p=>(E.ti p.2).map fun fi=>(p.1,fi.size)
def bldK (E:Env)(s:S)(t:TypeId)(parts:List (Nat×Operand))(K:LV->Prop):Prop:=
 sm (E.ti t) fun ti=>sm (s.evs parts) fun ps=>
 if ti.str then(ti.fields.all fun p=>(E.ti p.2).isSome)=true/\sm (fillP (place E ti) (vcs ti.zero) ps) fun cs=>K (mk cs)
 else match ti.desc with
 |.arr _ e=>sm (E.ti e) fun te=>sm (fillP (fun i=>some (i*te.size,te.size)) (vcs ti.zero) ps) fun cs=>K (mk cs)
 |_=>False
def LV.tr:LV->Prop->Prop->Prop
 |.d (.bool b),p,q=>(b=true->p)/\(b=false->q)
 |_,_,_=>False
def jvj (t:TypeId)(K:LV->Prop):Prop:=∀a:Addr,K (.d (.ifc t (.imm (.pointer (some a)))))
def kxk (K:LV->Prop):Prop:=∀v:Value,v.oneCell'=true->K (.d (.imm v))
def ldX (E:Env)(s:S)(i:TI)(x:LV)(K:LV->Prop):Prop:=match x.sp with
 |some p=>E.hp=true/\ldK s i (.bp (p.1+1000000) p.2) K
 |none=>ldK s i x K
def ldA (E:Env)(s:S)(i:TI)(a:Operand)(K:LV->Prop):Prop:=match a with
 |.global n=>n=wjh/\i.agg=false/\kxk K
 |a=>sm (s.ev a) fun x=>ldX E s i x K
def taK (t:TypeId)(i:TI)(ok:Bool)(x:LV)(K:LV->Prop):Prop:=
 match i.desc,x with
 |.ifc,_=>False
 |_,.d (.ifc t' y)=>(t'=t->K (if ok then .tup [.d y,.d (.bool true)]else .d y))/\(t'≠t->ok=true/\K (.tup [cv i.zero,.d (.bool false)]))
 |_,.d (.imm .nilIface)=>ok=true/\K (.tup [cv i.zero,.d (.bool false)])
 |_,_=>False
def mmK (g:Bool)(x y:LV)(K:LV->Prop):Prop:=
 match x,y with
 |.d (.int k a),.d (.int k' b)=>k=k'/\K (.d (.int k (match g with|true=>if a<b then b else a|false=>if b<a then b else a)))
 |_,_=>False
def valK (E:Env)(op:Op)(s:S)(K:LV->Prop):Prop:=
 match op with
 |.move x|.assign x=>sm (s.ev x) K
 |.pick c a b=>sm (s.ev c) fun c=>c.tr (sm (s.ev a) K) (sm (s.ev b) K)
 |.build t ps=>bldK E s t ps.toList K
 |.load t a=>sm (E.ti t) fun i=>ldA E s i a K
 |.nilCheck x=>sm (s.ev x) fun x=>match x with
   |.bp _ _|.ep _ _|.fn (.func _) _ _|.d (.imm (.pointer (some _)))=>K x
   |_=>False
 |.binOp op t x y _=>sm (s.ev x) fun u=>sm (s.ev y) fun v=>yxG E (isC x||isC y) op t u v K
 |.unOp op _ x=>sm (s.ev x) fun x=>match op,x with
   |.not,.d (.bool b)=>K (.d (.bool (!b)))
   |.neg,.d (.int k n)=>arK E k (0-n) K
   |_,_=>False
 |.convert src dst x=>sm (E.ti src) fun _=>sm (E.ti dst) fun j=>sm (s.ev x) fun x=>match j.desc,x with
   |.int k,.d (.int _ n)=>arK E k n K
   |_,_=>False
 |.makeInterface t x=>sm (E.ti t) fun i=>sm (s.ev x) fun x=>match i.desc,x with
   |.ifc,_=>False
   |_,.d x=>K (.d (.ifc t x))
   |_,.bp _ _=>jvj t K
   |_,_=>False
 |.makeFunc f xs ys=>sm (s.evs (xs.toList.map fun x=>(0,x))) fun xs=>sm (s.evs (ys.toList.map fun x=>(0,x))) fun ys=>K (.fn f (xs.map (·.2)) (ys.map (·.2)))
 |.fieldAddr t x f=>sm (E.ti t) fun i=>sm (fldOff i f) fun p=>sm (E.ti p.2) fun fi=>fi.size≠0/\sm (s.ev x) fun x=>match x with
   |.bp k off=>K (.bp k (off+p.1))
   |.ep x off=>K (.ep x (off+p.1))
   |.d (.imm (.pointer (some ⟨b,k,none⟩)))=>K (.d (.imm (.pointer (some ⟨b,k+p.1,none⟩))))
   |.ap r sz n j o=>sm (s.ar r) fun a=>n=a.2.2.length/\K (.ap r sz n j (o+p.1))
   |_=>False
 |.field t x f=>sm (E.ti t) fun i=>sm (fldOff i f) fun p=>sm (E.ti p.2) fun fi=>sm (s.ev x) fun x=>sm (qqg x) fun cs=>sm (prt fi p.1 cs) K
 |.indexAddr t x i=>sm (s.ev x) fun x=>sm (s.ev i) fun i=>match i with
   |.d (.int _ i)=>ixK E s t x i K
   |_=>False
 |.index t x i=>sm (s.ev x) fun x=>sm (s.ev i) fun i=>match i with
   |.d (.int _ i)=>jjA E t x i K
   |_=>False
 |.slice t x lo hi none=>sm (s.ev x) fun x=>wxD E s t x lo hi K
 |.extract x i=>sm (s.ev x) fun x=>match x with
   |.tup xs=>sm xs[i]? K
   |_=>False
 |.typeAssert x _ t ok=>sm (E.ti t) fun i=>sm (s.ev x) fun x=>taK t i ok x K
 |.call {callee:=.builtin .len,args,argTypes}=>match args.toList,argTypes.toList with
   |[x],[t]=>sm (s.ev x) fun x=>mvK E x fun x=>wkR E s t x K
   |_,_=>False
 |.call {callee:=.builtin .max,args,argTypes:=_}=>match args.toList with
   |[x,y]=>sm (s.ev x) fun x=>sm (s.ev y) fun y=>mmK true x y K
   |_=>False
 |.call {callee:=.builtin .min,args,argTypes:=_}=>match args.toList with
   |[x,y]=>sm (s.ev x) fun x=>sm (s.ev y) fun y=>mmK false x y K
   |_=>False
 |.slice t x none (some u) (some v)=>sm (s.ev x) fun x=>sm (s.ev u) fun u=>sm (s.ev v) fun v=>wzG E t x u v K
 |_=>False
theorem qjL {P:Program}{t:TypeId}{i:TypeInfo}(h:P.info? t=some i)(w:World):(typeInfo t).run P w=.ok i w:=by
 simp[typeInfo,h]
theorem zzR {P:Program}{t:TypeId}{d:TypeDesc}(h:P.underlying t=some d)(w:World):(underlying t).run P w=.ok d w:=by
 simp[underlying,h]
theorem TOK.sizeOf {P:Program}{tl:List (Nat×TI)}(h:TOK P tl){t:TypeId}{i:TI}(hi:lkp t tl=some i)(w:World):(Go.sizeOf t).run P w=.ok i.size w:=by
 obtain⟨info,d,h1,h2,_⟩:=h t i (qqi hi);simp[Go.sizeOf,qjL h1,h2]
theorem TOK.und {P:Program}{tl:List (Nat×TI)}(h:TOK P tl){t:TypeId}{i:TI}(hi:lkp t tl=some i):∃d,dk d=i.desc/\∀w,(underlying t).run P w=.ok d w:=by
 obtain⟨info,d,_,_,_,_,h5,h6,_⟩:=h t i (qqi hi);exact⟨d,h6,zzR h5⟩
theorem TOK.zero {P:Program}{tl:List (Nat×TI)}(h:TOK P tl){t:TypeId}{i:TI}(hi:lkp t tl=some i)(w:World):(zeroValue t).run P w=.ok i.zero w:=by
 obtain⟨info,d,h1,_,_,h4,_⟩:=h t i (qqi hi);simp[zeroValue,qjL h1,h4]
theorem TOK.isAgg {P:Program}{tl:List (Nat×TI)}(h:TOK P tl){t:TypeId}{i:TI}(hi:lkp t tl=some i)(w:World):(Go.isAgg t).run P w=.ok i.agg w:=by
 obtain⟨d,hd,hu⟩:=h.und hi;unfold Go.isAgg TI.agg;rw[<-hd];simp only[Sem.run_bind,hu,Result.andThen_ok];cases d<;>simp[dk]
theorem Addr.add_none (b o n:Nat):(⟨b,o,none⟩:Addr).add n=⟨b,o+n,none⟩:=by
 unfold Addr.add;split<;>simp_all
theorem qk5 {P:Program}{tl:List (Nat×TI)}(h:TOK P tl){t:TypeId}{i:TI}(hi:lkp t tl=some i)(w:World)(b o:Nat)(cs:List Value)
  (hc:∀j v,cs[j]?=some v->w.cell? ⟨b,o+j,none⟩=some v)(hl:i.agg=true->i.size<=cs.length)(h1:i.agg=false->0<cs.length):
  (loadVar t ⟨b,o,none⟩).run P w=.ok (if i.agg then .agg (cs.take i.size).toArray else cs.getD 0 undef) w:=by
 unfold loadVar;simp only[Sem.run_bind,h.isAgg hi,Result.andThen_ok];cases ha:i.agg with|true=>{simp only[if_true,Sem.run_bind,h.sizeOf hi,Result.andThen_ok];have:=run_loadCells_list (P:=P) w ⟨b,o,none⟩ (cs.take i.size) (fun j v hj=>by{rw[Addr.add_none];rw[List.getElem?_take]at hj;split at hj;exact hc j v hj;{cases hj}});rw[List.length_take,Nat.min_eq_left (hl ha)]at this;simp[this]}|false=>{have h0:=h1 ha;cases cs with|nil=>{simp at h0}|cons c cs=>{have:=hc 0 c rfl;simp only[Nat.add_zero]at this;simp[this]}}
theorem zwn {g:Gh}{i:TI}{off:Nat}{xs:List LV}{vs:List Value}(h:LRps g xs vs){x:LV}(hx:prt i off xs=some x):
  (i.agg=true->off+i.size<=vs.length)/\(i.agg=false->off<vs.length)/\LRp g x (if i.agg then .agg ((vs.drop off).take i.size).toArray else(vs.drop off).getD 0 undef):=by
 unfold prt at hx;cases ha:i.agg with|true=>{simp only[ha,if_true,h.length]at hx;split at hx;{rename_i hle;simp only[Option.some.injEq]at hx;subst hx;refine⟨fun _=>hle,fun e=>(by cases e),?_⟩;simpa using wkM ((h.drop off).take i.size)};{cases hx}}|false=>{simp only[ha,Bool.false_eq_true,if_false]at hx;obtain⟨v,hv,hp⟩:=h.get hx;have hlt:off<vs.length:=by{rcases Nat.lt_or_ge off vs.length with h'|h';exact h';{rw[List.getElem?_eq_none h']at hv;cases hv}};refine⟨fun e=>(by cases e),fun _=>hlt,?_⟩;have:(vs.drop off).getD 0 undef=v:=by{simp[List.getD,hv]};simp only[Bool.false_eq_true,if_false];rw[this];exact hp}
theorem D.lcs_rp {g:Gh}{x:D}{v:Value}(h:Rp g.Φ x v)(hf:x.flat=true):LRps g x.lcs v.cells.toList:=by
 cases x with|ag xs=>{cases h with|ag h=>{exact(by simpa[D.lcs,Value.cells]using LRps.ofD h)}}|imm y=>{cases h;rw[qji (by simpa[D.flat]using hf)];exact .cons (.d (.imm _)) .nil}|int|bool|st|sl|ifc=>{have e:v.oneCell'=true:=by{cases h<;>rfl};rw[qji e];exact .cons (.d h) .nil}
theorem zxW {P:Program}{tl:List (Nat×TI)}(ht:TOK P tl){t:TypeId}{i:TI}(hi:lkp t tl=some i){g:Gh}{w:World}{b o off:Nat}{xs:List LV}{vs:List Value}
  (h:LRps g xs vs)(hc:∀j v,vs[j]?=some v->w.cell? ⟨b,o+j,none⟩=some v){y:LV}(hy:prt i off xs=some y):
  ∃u,LRp g y u/\(Instr.loadAt t (.pointer (some ⟨b,o+off,none⟩))).run P w=.ok u w:=by
 obtain⟨h1,h2,h3⟩:=zwn h hy;refine⟨_,h3,?_⟩;simp only[Instr.loadAt,Instr.sureAddr,Sem.run_bind,Sem.run_pure,Result.andThen_ok];have:=qk5 ht hi w b (o+off) (vs.drop off) (fun j v hj=>?_) (fun ha=>?_) (fun ha=>?_);{rw[this]};{rw[List.getElem?_drop]at hj;have:=hc _ _ hj;rwa [<-Nat.add_assoc]at this};{have:=h1 ha;simp;omega};{have:=h2 ha;simp;omega}
theorem zjT {P:Program}{tl:List (Nat×TI)}(ht:TOK P tl){t:TypeId}{i:TI}(hi:lkp t tl=some i){g:Gh}{b o off:Nat}{xs:List LV}{vs:List Value}
  (h:LRps g xs vs){y:LV}(hy:prt i off xs=some y):
  ∃u,LRp g y u/\∀w:World,(∀j v,vs[j]?=some v->w.cell? ⟨b,o+j,none⟩=some v)->(Instr.loadAt t (.pointer (some ⟨b,o+off,none⟩))).run P w=.ok u w:=by
 obtain⟨h1,h2,h3⟩:=zwn h hy;refine⟨_,h3,fun w hc=>?_⟩;simp only[Instr.loadAt,Instr.sureAddr,Sem.run_bind,Sem.run_pure,Result.andThen_ok];have:=qk5 ht hi w b (o+off) (vs.drop off) (fun j v hj=>?_) (fun ha=>?_) (fun ha=>?_);{rw[this]};{rw[List.getElem?_drop]at hj;have:=hc _ _ hj;rwa [<-Nat.add_assoc]at this};{have:=h1 ha;simp;omega};{have:=h2 ha;simp;omega}
theorem wkT {P:Program}{tl:List (Nat×TI)}(ht:TOK P tl){t:TypeId}{i:TI}(hi:lkp t tl=some i){g:Gh}{s:S}{x:D}{off:Nat}{v:Value}(hx:LRp g (.ep x off) v){K:LV->Prop}(h:ldK s i (.ep x off) K):
  ∃y u,K y/\LRp g y u/\∀w:World,(∀b o v,g.Φ b o=some v->w.cell? ⟨b,o,none⟩=some v)->(Instr.loadAt t v).run P w=.ok u w:=by
 cases hx with|ep b o off hx hc=>{obtain⟨hf,y,hy,hK⟩:=h;obtain⟨u,hu,hr⟩:=zjT ht hi (b:=b) (o:=o) (D.lcs_rp hx hf) hy;exact⟨y,u,hK,hu,fun w hw=>hr w fun j v hj=>hw _ _ _ (hc j v (by simpa using hj))⟩}
theorem zjl {P:Program}{tl:List (Nat×TI)}(ht:TOK P tl){t:TypeId}{i:TI}(hi:lkp t tl=some i){g:Gh}{s:S}{w:World}(hw:Wd g s.bx s.ar w)
  {x:LV}{v:Value}(hx:LRp g x v){K:LV->Prop}(h:ldK s i x K):∃y u,K y/\LRp g y u/\(Instr.loadAt t v).run P w=.ok u w:=by
 cases x with|bp k off=>{cases hx;obtain⟨b,hb,hty,y,hy,hK⟩:=h;obtain⟨vs,hvs,hh,_⟩:=hw.box k b hb;rw[qzU hty]at hh;obtain⟨u,hu,hr⟩:=zxW ht hi (w:=w) (b:=g.β k) (o:=0) hvs (fun j v hj=>by simpa[World.cell?,hh]using hj) hy;exact⟨y,u,hK,hu,by simpa using hr⟩}|ep x off=>{cases hx with|ep b o off hx hc=>{obtain⟨hf,y,hy,hK⟩:=h;obtain⟨u,hu,hr⟩:=zxW ht hi (w:=w) (b:=b) (o:=o) (D.lcs_rp hx hf) (fun j v hj=>(hw.fix _ _ _ (hc j v (by simpa using hj))).1) hy;exact⟨y,u,hK,hu,hr⟩}}|ap r sz n j o=>{cases hx with|ap h1 hp=>{obtain⟨a,ha,h1,h2,h3,h4⟩:=h;obtain⟨sz',ty,xs⟩:=a;simp only at h1 h2 h3 h4;subst h1;obtain⟨us,c,hus,hh,hcs,hle,hsz,_,hel⟩:=hw.arr r sz' ty xs ha;have hlen:=hw.len r;rw[ha]at hlen;have hv:=(hp _ hlen).2 h2;subst hv;have hj:j<xs.length:=h2▸h3;obtain⟨u,hu,hru⟩:=hus.get (lD hj);obtain⟨hf,y,hy,hK⟩:=h4 _ (lD hj);obtain⟨hus1,_,hus2⟩:=hel j u hu;obtain⟨u',hu',hr⟩:=zxW ht hi (w:=w) (b:=(g.α r).1) (o:=j*sz') (D.lcs_rp hru hf) (fun k v hk=>by simpa[World.cell?,hh]using hus2 k v (by simpa using hk)) hy;exact⟨y,u',hK,hu',hr⟩}}|_=>{exact h.elim}
theorem LRp.unD {g:Gh}{x:D}{v:Value}(h:LRp g (.d x) v):Rp g.Φ x v:=by cases h with|d h=>{exact h}
theorem zks {k:IntKind}{n:Int}(h:inr k n):k.wrap n=n:=by
 cases k<;>simp only[inr]at h<;>simp[IntKind.wrap,IntKind.bits,IntKind.signed]<;>omega
theorem qwP {E:Env}{k:IntKind}{n:Int}{K:LV->Prop}(h:arK E k n K):∃y,K y/\∀g,LRp g y (.int k (k.wrap n)):=by
 unfold arK at h;split at h;exact⟨_,h,fun g=>.d (.int _ _)⟩;exact⟨_,h.2,fun g=>by rw[zks h.1];exact .d (.int _ _)⟩
theorem zkH {P:Program}{E:Env}(ht:TOK P E.tl){op:BinOp}{t:TypeId}{x y:LV}{K:LV->Prop}(h:binK E op t x y K){g:Gh}{u v:Value}(hx:LRp g x u)(hy:LRp g y v)(xo yo:Operand):
  ∃r q,K r/\LRp g r q/\∀w:World,(do eqGuard op t xo yo u v;binOp op t u v).run P w=.ok q w:=by
 unfold binK at h;split at h;{rename_i k a k' b;cases hx.unD;cases hy.unD;have hg:∀w:World,(eqGuard op t xo yo (.int k a) (.int k' b)).run P w=.ok () w:=by{intro w;unfold eqGuard;cases op<;>rfl};simp only[Sem.run_bind,hg,Result.andThen_ok];unfold iiK at h;split at h;exact⟨_,_,h.2,.d (.int _ _),fun w=>by have h1:=h.1;simp[binOp,Op.shift,show¬b<0 by omega]⟩;exact⟨_,_,h.2,.d (.int _ _),fun w=>by have h1:=h.1;simp[binOp,Op.shift,show¬b<0 by omega]⟩;rename_i hs1 hs2;obtain⟨rfl,h⟩:=h;cases op with|add|sub|mul=>{simp only[intK]at h;obtain⟨r,hK,hr⟩:=qwP h;exact⟨r,_,hK,hr g,fun w=>by simp[binOp,Op.intArith]⟩}|quo=>{simp only[intK]at h;obtain⟨r,hK,hr⟩:=qwP h.2;exact⟨r,_,hK,hr g,fun w=>by simp[binOp,Op.intDiv,h.1]⟩}|rem=>{simp only[intK]at h;exact⟨_,_,h.2,.d (.int _ _),fun w=>by simp[binOp,Op.intDiv,h.1]⟩}|eql|neq|lss|leq|gtr|geq=>{simp only[intK]at h;exact⟨_,_,h,.d (.bool _),fun w=>by simp[binOp,Op.intCmp]⟩}|shl=>{exact(hs1 rfl).elim}|shr=>{exact(hs2 rfl).elim}|_=>{exact h.elim}};{rename_i a b;cases hx.unD;cases hy.unD;have hg:∀w:World,(eqGuard op t xo yo (.string ⟨a.toArray⟩) (.string ⟨b.toArray⟩)).run P w=.ok () w:=by{intro w;unfold eqGuard;cases op<;>rfl};simp only[Sem.run_bind,hg,Result.andThen_ok];cases op with|add=>{simp only[stK]at h;have h1:=h.1;refine⟨_,_,h.2,.d (.st _),fun w=>?_⟩;have hs:(⟨a.toArray⟩:ByteArray).size+(⟨b.toArray⟩:ByteArray).size=a.length+b.length:=rfl;have he:(⟨a.toArray⟩:ByteArray)++(⟨b.toArray⟩:ByteArray)=⟨(a++b).toArray⟩:=by{apply ByteArray.ext;simp[ByteArray.data_append]};simp only[binOp,Op.stringOp];rw[if_neg (by rw[hs,show IntKind.i64.max=9223372036854775807 from rfl];omega),he];rfl}|eql|neq=>{simp only[stK]at h;exact⟨_,_,h,.d (.bool _),fun w=>by simp[binOp,Op.stringOp]⟩}|_=>{exact h.elim}};{rename_i a b;obtain⟨i,hi,hd,h⟩:=h;cases hx.unD;cases hy.unD;have hg:∀w:World,(eqGuard op t xo yo (.bool a) (.bool b)).run P w=.ok () w:=by{intro w;unfold eqGuard;cases op<;>rfl};obtain⟨d0,hd0,hu0⟩:=ht.und hi;obtain rfl:=wjo (hd0.trans hd);have he:∀w:World,(Op.equal t (.bool a) (.bool b)).run P w=.ok (a==b) w:=by{intro w;have hu:=hu0 w;show(Op.equalIn (9999+1) t (.bool a) (.bool b)).run P w=_;unfold Op.equalIn;simp only[Sem.run_bind,hu,Result.andThen_ok,Sem.run_pure]};simp only[Sem.run_bind,hg,Result.andThen_ok];cases op with|eql=>{exact⟨_,_,h,.d (.bool _),fun w=>by simp only[binOp,Sem.run_bind,he,Result.andThen_ok,Sem.run_pure]⟩}|neq=>{exact⟨_,_,h,.d (.bool _),fun w=>by simp only[binOp,Sem.run_bind,he,Result.andThen_ok,Sem.run_pure]⟩}|_=>{exact h.elim}};exact h.elim
theorem dk_ifc' {d:TypeDesc}(h:dk d=.ifc):∃m,d=.interface m:=by
 cases d<;>simp only[dk]at h<;>first|(cases h;done)|exact⟨_,rfl⟩
theorem wjP {P:Program}{d:TypeDesc}{t:TypeId}{x y:D}{K:Bool->Prop}(h:wqn (dk d) x y K){Φ:Nat->Nat->Option Value}{u v:Value}(hx:Rp Φ x u)(hy:Rp Φ y v)(hu:∀w,(underlying t).run P w=.ok d w):
  ∃r,K r/\∀(n:Nat) (w:World),(Op.equalIn (n+1) t u v).run P w=.ok r w:=by
 unfold wqn at h;split at h;{rename_i k _ a _ b e;obtain rfl:=zk4 e;obtain⟨rfl,h⟩:=h;cases hx;cases hy;exact⟨_,h,fun n w=>by unfold Op.equalIn;simp only[Sem.run_bind,hu w,Result.andThen_ok,if_true,Sem.run_pure]⟩};{rename_i a b e;obtain rfl:=zz1 e;cases hx;cases hy;refine⟨_,h,fun n w=>?_⟩;unfold Op.equalIn;simp only[Sem.run_bind,hu w,Result.andThen_ok,Sem.run_pure];rw[beq_toListBytes,ByteArray.toList_eq,ByteArray.toList_eq]};{rename_i a b e;obtain rfl:=wjo e;cases hx;cases hy;exact⟨_,h,fun n w=>by unfold Op.equalIn;simp only[Sem.run_bind,hu w,Result.andThen_ok,Sem.run_pure]⟩};exact h.elim
theorem wqm {i:TI}{x y:D}{K:Bool->Prop}(h:wqn i.desc x y K):i.agg=false:=by
 unfold wqn at h;unfold TI.agg;split at h;{rename_i e;rw[e]};{rename_i e;rw[e]};{rename_i e;rw[e]};exact h.elim
theorem wzg {P:Program}{E:Env}(ht:TOK P E.tl){Φ:Nat->Nat->Option Value}{xs ys:List D}{us vs:List Value}(hx:Rps Φ xs us)(hy:Rps Φ ys vs):
  ∀{fs:List Field} {K:Bool->Prop},(∀f∈fs,f.name≠ "_")->wv2 E xs ys (fs.map fun f=>(f.offset,f.type)) K->∃r,K r/\∀(n:Nat) (w:World),(Op.eqFields (n+1) us.toArray vs.toArray fs).run P w=.ok r w
 |[],K,_,h=>⟨true,h,fun n w=>by simp only[Op.eqFields,Sem.run_pure]⟩
 |f::fs,K,hn,h=>by
  obtain⟨i,hi,x,ex,y,ey,h⟩:=h;obtain⟨d,hd,hu⟩:=ht.und hi;have ha:=fun w=>ht.isAgg hi w;rw[wqm h]at ha;rw[<-hd]at h;obtain⟨u,eu,ru⟩:=hx.get ex;obtain⟨v,ev,rv⟩:=hy.get ey;obtain⟨r,h,hr⟩:=wjP h ru rv hu;obtain⟨q,h,hq⟩:=wzg ht hx hy (fun f hf=>hn f (List.mem_cons_of_mem _ hf)) h;refine⟨r&&q,h,fun n w=>?_⟩;have p1:∀w,(part f.type us.toArray f.offset).run P w=.ok u w:=fun w=>by{unfold part;simp only[Sem.run_bind,ha w,Result.andThen_ok,Bool.false_eq_true,if_false,List.getElem?_toArray,eu,Sem.run_pure]};have p2:∀w,(part f.type vs.toArray f.offset).run P w=.ok v w:=fun w=>by{unfold part;simp only[Sem.run_bind,ha w,Result.andThen_ok,Bool.false_eq_true,if_false,List.getElem?_toArray,ev,Sem.run_pure]};simp only[Op.eqFields,if_pos (hn f List.mem_cons_self),Sem.run_bind,p1,p2,hr,Result.andThen_ok];cases r;{simp only[Bool.not_false,if_true,Sem.run_pure,Bool.false_and]};{simp only[Bool.not_true,Bool.false_eq_true,if_false,Bool.true_and];exact hq n w}
theorem wx0 {P:Program}{E:Env}(ht:TOK P E.tl){op:BinOp}{t:TypeId}{x y:LV}{K:LV->Prop}{xo yo:Operand}(h:zvt E (isC xo||isC yo) op t x y K){g:Gh}{u v:Value}(hx:LRp g x u)(hy:LRp g y v)(w:World):
  ∃r q,K r/\LRp g r q/\(do eqGuard op t xo yo u v;binOp op t u v).run P w=.ok q w:=by
 have fin:∀(b:Bool),eqK op b K->(eqGuard op t xo yo u v).run P w=.ok () w->(Op.equal t u v).run P w=.ok b w->(∀k a,u≠ .int k a)->(∀a,u≠ .string a)->(∀k a,u≠ .float k a)->(∀k a c,u≠ .complex k a c)->∃r q,K r/\LRp g r q/\(do eqGuard op t xo yo u v;binOp op t u v).run P w=.ok q w:=by{intro b hK hg he h1 h2 h3 h4;simp only[Sem.run_bind,hg,Result.andThen_ok];unfold eqK at hK;have hb:binOp op t u v=(match op with|.eql=>do pure (.bool (<-Op.equal t u v))|.neq=>do pure (.bool !(<-Op.equal t u v))|_=>binOp op t u v):=by{cases op<;>first|rfl|(cases u<;>first|(exact absurd rfl (h1 _ _))|(exact absurd rfl (h2 _))|(exact absurd rfl (h3 _ _))|(exact absurd rfl (h4 _ _ _))|rfl)};(cases op<;>first|exact hK.elim|skip);exact⟨_,_,hK,.d (.bool _),by rw[hb];simp only[Sem.run_bind,he,Result.andThen_ok,Sem.run_pure]⟩;exact⟨_,_,hK,.d (.bool _),by rw[hb];simp only[Sem.run_bind,he,Result.andThen_ok,Sem.run_pure]⟩};unfold zvt at h;split at h;{obtain⟨hc,i,hi,hd,hK⟩:=h;cases hx.unD;cases hy.unD;obtain⟨d0,hd0,hu0⟩:=ht.und hi;obtain⟨ms,rfl⟩:=dk_ifc' (hd0.trans hd);have hu:=hu0 w;refine fin true hK ?_ ?_ (fun _ _ e=>by cases e) (fun _ e=>by cases e) (fun _ _ e=>by cases e) (fun _ _ _ e=>by cases e);{unfold eqGuard;cases xo<;>cases yo<;>first|(simp[isC]at hc;done)|(cases op<;>rfl)};{show(Op.equalIn (9999+1) t _ _).run P w=_;unfold Op.equalIn;simp only[Sem.run_bind,hu,Result.andThen_ok,Sem.run_pure]}};{obtain⟨i,hi,hd,hK⟩:=h;cases hx.unD;cases hy.unD;obtain⟨d0,hd0,hu0⟩:=ht.und hi;obtain⟨ms,rfl⟩:=dk_ifc' (hd0.trans hd);have hu:=hu0 w;refine fin false hK ?_ ?_ (fun _ _ e=>by cases e) (fun _ e=>by cases e) (fun _ _ e=>by cases e) (fun _ _ _ e=>by cases e);{unfold eqGuard;cases op<;>rfl};{show(Op.equalIn (9999+1) t _ _).run P w=_;unfold Op.equalIn;simp only[Sem.run_bind,hu,Result.andThen_ok,Sem.run_pure]}};{obtain⟨i,hi,hd,hK⟩:=h;cases hx.unD;cases hy.unD;obtain⟨d0,hd0,hu0⟩:=ht.und hi;obtain⟨ms,rfl⟩:=dk_ifc' (hd0.trans hd);have hu:=hu0 w;refine fin false hK ?_ ?_ (fun _ _ e=>by cases e) (fun _ e=>by cases e) (fun _ _ e=>by cases e) (fun _ _ _ e=>by cases e);{unfold eqGuard;cases op<;>rfl};{show(Op.equalIn (9999+1) t _ _).run P w=_;unfold Op.equalIn;simp only[Sem.run_bind,hu,Result.andThen_ok,Sem.run_pure]}};{rename_i t1 k a t2 k' b;obtain⟨i,hi,hd,rfl,rfl,j,hj,hjd,hjc,hK⟩:=h;have hx':=hx.unD;have hy':=hy.unD;cases hx' with|ifc _ hx'=>{cases hy' with|ifc _ hy'=>{cases hx';cases hy';obtain⟨d0,hd0,hu0⟩:=ht.und hi;obtain⟨ms,rfl⟩:=dk_ifc' (hd0.trans hd);have hu:=hu0 w;obtain⟨info,d1,q1,_,_,_,q5,q6,_,q8⟩:=ht t1 j (qqi hj);obtain rfl:=zk4 (q6.trans hjd);rw[hjc]at q8;have hcmp:info.comparable=true:=by{simp only[Bool.not_true,Bool.false_or,Bool.and_eq_true]at q8;exact q8.1};have hu1:=zzR q5 w;have hti:=qjL q1 w;refine fin (a==b) hK ?_ ?_ (fun _ _ e=>by cases e) (fun _ e=>by cases e) (fun _ _ e=>by cases e) (fun _ _ _ e=>by cases e);{unfold eqGuard;cases op<;>rfl};{show(Op.equalIn (9998+1+1) t _ _).run P w=_;unfold Op.equalIn;simp only[Sem.run_bind,hu,Result.andThen_ok,ne_eq,not_true_eq_false,if_false,hti,hcmp,Bool.not_true,Bool.false_eq_true];unfold Op.equalIn;simp only[Sem.run_bind,hu1,Result.andThen_ok,if_true,Sem.run_pure]}}}};{rename_i xs ys;obtain⟨i,hi,hc,hd,hK⟩:=h;have hx':=hx.unD;have hy':=hy.unD;cases hx' with|ag hx'=>{cases hy' with|ag hy'=>{obtain⟨info,d1,q1,_,_,_,q5,q6,_,q8⟩:=ht t i (qqi hi);obtain⟨fs,rfl,hf⟩:=wv4 (q6.trans hd);rw[hc,hd]at q8;have e0:P.fieldsOf t=fs:=by{unfold Program.fieldsOf;rw[q5]};simp only[Bool.not_true,Bool.false_or,Bool.and_eq_true,zxX,e0]at q8;obtain⟨_,⟨p1,p2⟩,p3⟩:=q8;rw[hf]at hK;obtain⟨r,hK,hr⟩:=wzg ht hx' hy' (fun f hf=>by have:=List.all_eq_true.1 p3 f hf;simpa using this) hK;refine fin r hK (run_eqGuard_agg w op t xo yo _ _ (by simpa using p2)) ?_ (fun _ _ e=>by cases e) (fun _ e=>by cases e) (fun _ _ e=>by cases e) (fun _ _ _ e=>by cases e);show(Op.equalIn (9999+1) t _ _).run P w=_;rw[run_equalIn_struct w _ t _ _ (by rw[e0];exact q5) (by simpa using p1),e0];exact hr _ w}}};{obtain⟨r,q,h1,h2,h3⟩:=zkH ht h hx hy xo yo;exact⟨r,q,h1,h2,h3 w⟩}
theorem wxz {P:Program}{E:Env}(ht:TOK P E.tl){op:BinOp}{t:TypeId}{x y:LV}{K:LV->Prop}{xo yo:Operand}(h:yxG E (isC xo||isC yo) op t x y K){g:Gh}{u v:Value}(hx:LRp g x u)(hy:LRp g y v)(w:World):
  ∃r q,K r/\LRp g r q/\(do eqGuard op t xo yo u v;binOp op t u v).run P w=.ok q w:=by
 have fin:∀(a:Option Addr) (n c:Nat) (n' c':Nat) (i:TI),E.ti t=some i->(∃e,i.desc=.sli e)->eqK op a.isNone K->∃r q,K r/\LRp g r q/\(do eqGuard op t xo yo (.slice a n c) (.slice none n' c');binOp op t (.slice a n c) (.slice none n' c')).run P w=.ok q w:=by{rintro a n c n' c' i hi ⟨e,hd⟩ hK;obtain⟨d0,hd0,hu⟩:=ht.und hi;obtain rfl:=qjh (hd0.trans hd);have he:(Op.equal t (.slice a n c) (.slice none n' c')).run P w=.ok a.isNone w:=by{show(Op.equalIn (9999+1) t _ _).run P w=_;unfold Op.equalIn;cases a<;>simp only[Sem.run_bind,hu w,Result.andThen_ok,Sem.run_pure,Option.isNone_none,Option.isNone_some]};have hg:(eqGuard op t xo yo (.slice a n c) (.slice none n' c')).run P w=.ok () w:=by{unfold eqGuard;cases op<;>rfl};unfold eqK at hK;(cases op<;>first|exact hK.elim|skip);exact⟨_,_,hK,.d (.bool _),by simp only[Sem.run_bind,hg,Result.andThen_ok,binOp,he,Sem.run_pure]⟩;exact⟨_,_,hK,.d (.bool _),by simp only[Sem.run_bind,hg,Result.andThen_ok,binOp,he,Sem.run_pure]⟩};unfold yxG at h;split at h;{rename_i b hs;obtain⟨i,hi,hd,hK⟩:=h;unfold slN at hs;split at hs<;>simp only[Option.some.injEq,reduceCtorEq]at hs;{cases hx.unD;cases hy.unD;subst hs;exact fin _ _ _ _ _ i hi hd hK};{cases hy.unD;subst hs;have hx':=hx.unD;cases hx' with|sl=>{exact fin _ _ _ _ _ i hi hd hK}}};{rename_i hs;obtain⟨i,hi,hd,hK⟩:=h;unfold slN at hs;split at hs<;>simp only[Option.some.injEq,reduceCtorEq]at hs;cases hy.unD;have hx':=hx.unD;cases hx' with|sl0=>{exact fin _ _ _ _ _ i hi hd (hK _)}|sl _ _ _ hn=>{exact absurd rfl hn}};exact wx0 ht h hx hy w
theorem zzY {E:Env}{z:Bg}[Stb E z] {m:LV}{K:LV->Prop}(h:mvK E m K){g:Gh}{bx:Bx}{ar:Ar}{w:World}(hw:Rw z g bx ar w){v:Value}(hm:LRp g m v):∃m',K m'/\LRp g m' v:=by
 unfold mvK at h;split at h;{rename_i b;cases hm.unD;refine⟨_,h.2,?_⟩;have:=LRp.mp (g:=g) (b+1000000);rwa [Stb.get h.1 hw]at this};exact⟨_,h,hm⟩
theorem qk2 {Φ:Nat->Nat->Option Value}{sz:Nat}{x:D}{xs:List D}{f:Bool}{v:Value}(h:Rp Φ x v)(hx:x.asl sz=some (xs,f)):
  (xs=[]/\∃a cap,v=.slice a 0 cap/\(f=true->cap=0)/\(a=none->cap=0))\/
  (xs≠[]/\∃us b off cap,v=.slice (some ⟨b,off,none⟩) xs.length cap/\Rps Φ xs us/\(∀(i:Nat) (u:Value),us[i]?=some u->u.cells.size=sz)/\
    (∀(i:Nat) (u:Value),us[i]?=some u->∀(j:Nat) (c:Value),u.cells[j]?=some c->Φ b (off+i*sz+j)=some c)/\xs.length<=cap/\(f=true->cap=xs.length)):=by
 unfold D.asl at hx;split at hx;{rename_i sz' ys f';split at hx;{rename_i e;subst e;simp only[Option.some.injEq,Prod.mk.injEq]at hx;obtain⟨rfl,rfl⟩:=hx;cases h with|sl0 sz f a cap hf ha=>{exact .inl ⟨rfl,a,cap,rfl,hf,ha⟩}|sl b off cap hn h hs hc hcap hf=>{exact .inr ⟨hn,_,b,off,cap,rfl,h,hs,hc,hcap,hf⟩}};{cases hx}};{simp only[Option.some.injEq,Prod.mk.injEq]at hx;obtain⟨rfl,rfl⟩:=hx;cases h;exact .inl ⟨rfl,none,0,rfl,fun _=>rfl,fun _=>rfl⟩};{cases hx}
theorem wqY {P:Program}{E:Env}(ht:TOK P E.tl){s:S}{t:TypeId}{x:LV}{i:Int}{k:IntKind}{K:LV->Prop}(h:wvf E s t x i K){g:Gh}{v:Value}{w:World}(hw:Wd g s.bx s.ar w)(hx:LRp g x v):
  ∃r q,K r/\LRp g r q/\∀w':World,(Instr.indexAt t v (.int k i)).run P w'=.ok q w':=by
 obtain⟨ti,hti,h⟩:=h;obtain⟨d0,hd0,hu⟩:=ht.und hti;split at h;{rename_i e hd;obtain rfl:=qjh (hd0.trans hd);obtain⟨te,hte,h⟩:=h;have hse:=ht.sizeOf hte;split at h;{rename_i r sz n;obtain⟨a,ha,h1,h2,h3,h4,hK⟩:=h;cases hx with|os h0 hx=>{have hl:=hw.len r;rw[ha]at hl;have hv:=(hx _ hl).2 h1;subst hv;refine⟨_,.pointer (some ⟨(g.α r).1,i.toNat*sz,none⟩),hK,.ap rfl fun m hm=>?_,fun w'=>?_⟩;{rw[hl]at hm;simp only[Option.map_some,Option.some.injEq]at hm;exact⟨by rw[<-hm,h1];exact Nat.le_refl _,fun _=>by simp⟩};{have hn:¬(n:Int)=0:=by{omega};simp[Instr.indexAt,asIntOf,hu,h3,h4,hse,Addr.add_none,h2]}}};{rename_i x;obtain⟨⟨xs,f⟩,hp,h3,h4,hK⟩:=h;rcases qk2 hx.unD hp with⟨rfl,_⟩|⟨hn,us,b,off,cap,rfl,hus,hsz,hc,hcap,hf⟩;{simp at h4;omega};{simp only at h4 hK;have hi:i.toNat<xs.length:=by{omega};obtain⟨u,hu',hr⟩:=hus.get (lD hi);refine⟨_,.pointer (some ⟨b,off+i.toNat*te.size+0,none⟩),hK _ (lD hi),.ep b (off+i.toNat*te.size) 0 hr (fun j c hj=>hc _ _ hu' j c hj),fun w'=>?_⟩;simp[Instr.indexAt,asIntOf,hu,h3,h4,hse,Addr.add_none]}};exact h.elim};{rename_i n e hd;obtain rfl:=wzm (hd0.trans hd);obtain⟨te,hte,h⟩:=h;have hse:=ht.sizeOf hte;split at h;{rename_i k' off;obtain⟨h3,h4,hK⟩:=h;cases hx;refine⟨_,_,hK,.bp _ _,fun w'=>?_⟩;simp[Instr.indexAt,asIntOf,hu,h3,h4,hse,Addr.add_none,Instr.sureAddr]};exact h.elim};exact h.elim
theorem zwT {P:Program}{E:Env}(ht:TOK P E.tl){s:S}{t:TypeId}{x:LV}{i:Int}{k:IntKind}{K:LV->Prop}(h:ixK E s t x i K){g:Gh}{v:Value}{w:World}(hw:Wd g s.bx s.ar w)(hx:LRp g x v):
  ∃r q,K r/\LRp g r q/\∀w':World,(Instr.indexAt t v (.int k i)).run P w'=.ok q w':=by
 unfold ixK at h;split at h;{rename_i p e;obtain rfl:=LV.ss_eq e;obtain⟨ti,hti,h⟩:=h;obtain⟨d0,hd0,hu⟩:=ht.und hti;split at h;{rename_i e hd;obtain rfl:=qjh (hd0.trans hd);obtain⟨te,hte,h3,h4,hK⟩:=h;have hse:=ht.sizeOf hte;have hx':=hx.unD;cases hx';exact⟨_,_,hK,.d (.imm _),fun w'=>by simp[Instr.indexAt,asIntOf,hu,h3,h4,hse,Addr.add_none]⟩};exact h.elim};exact wqY ht h hw hx
theorem zjU {P:Program}{tl:List (Nat×TI)}(ht:TOK P tl){t:TypeId}{i:TI}(hi:lkp t tl=some i){g:Gh}(w:World){off:Nat}{xs:List LV}{vs:List Value}(h:LRps g xs vs){x:LV}(hx:prt i off xs=some x):
  ∃u,LRp g x u/\(part t vs.toArray off).run P w=.ok u w:=by
 obtain⟨h1,h2,h3⟩:=zwn h hx;refine⟨_,h3,?_⟩;unfold part;simp only[Sem.run_bind,ht.isAgg hi,Result.andThen_ok];cases ha:i.agg with|true=>{simp only[if_true,Sem.run_bind,ht.sizeOf hi,Result.andThen_ok,Sem.run_pure];congr 2;simp[List.take_drop,Nat.add_comm]}|false=>{have:=h2 ha;simp[lD this]}
theorem getElem?_bytes (b:Bs)(n:Nat):(⟨b.toArray⟩:ByteArray)[n]?=b[n]?:=by
 by_cases h:n<b.length;{rw[ByteArray.getElem?_lt' _ _ (show n<b.length from h),lD h];rfl};{rw[ByteArray.getElem?_ge' _ _ (show¬n<b.length from h),List.getElem?_eq_none (by omega)]}
theorem wxb {P:Program}{E:Env}(ht:TOK P E.tl){t:TypeId}{x:LV}{i:Int}{k:IntKind}{K:LV->Prop}(h:jjA E t x i K){g:Gh}{v:Value}(w:World)(hx:LRp g x v):
  ∃r q,K r/\LRp g r q/\(Instr.index t v (.int k i)).run P w=.ok q w:=by
 obtain⟨ti,hti,h⟩:=h;obtain⟨d0,hd0,hu⟩:=ht.und hti;split at h;{rename_i hd;obtain rfl:=zz1 (hd0.trans hd);split at h;{rename_i b;obtain⟨h3,h4,hK⟩:=h;cases hx.unD;have hi:i.toNat<b.length:=by{omega};refine⟨_,_,hK _ (lD hi),.d (.int _ _),?_⟩;have hb:(⟨b.toArray⟩:ByteArray)[i.toNat]?=some b[i.toNat]:=by{rw[getElem?_bytes,lD hi]};simp[Instr.index,asIntOf,hu,h3,hb]};exact h.elim};{rename_i n e hd;obtain rfl:=wzm (hd0.trans hd);obtain⟨te,hte,xs,hxs,h3,h4,y,hy,hK⟩:=h;have hse:=ht.sizeOf hte;obtain⟨vs,rfl,hvs⟩:=qkZ hx hxs;obtain⟨u,hu',hr⟩:=zjU ht hte w hvs hy;refine⟨y,u,hK,hu',?_⟩;simp[Instr.index,asIntOf,hu,h3,h4,hse,hr]};exact h.elim
theorem qzI {P:Program}(w:World)(k:IntKind)(n:Int)(y:Nat)(c:BoundsCode)(h:0<=n/\n<=y):(Instr.sliceBound (.int k n) y c).run P w=.ok n.toNat w:=by
 simp[Instr.sliceBound,asIntOf,h.1,h.2]
theorem zwH {z:Bg}{g:Gh}{ds:List Deferred}{s:S}{a:Act}{w:World}(hR:R z g ds s a w){u:Nat}{lo:Option Operand}{K:Nat->Prop}(h:loK s u lo K):
  ∃l,K l/\l<=u/\((lo=none/\l=0)\/∃o k n,lo=some o/\a.eval o=.int k n/\0<=n/\n<=u/\l=n.toNat):=by
 cases lo with|none=>{exact⟨0,h,Nat.zero_le _,.inl ⟨rfl,rfl⟩⟩}|some o=>{obtain⟨x,hx,h⟩:=h;split at h;{rename_i k n;have:=(qzH hR hx).unD;cases hv:a.eval o<;>rw[hv]at this<;>cases this;exact⟨n.toNat,h.2.2,by omega,.inr ⟨o,_,n,rfl,hv,h.1,h.2.1,rfl⟩⟩};exact h.elim}
theorem zq4 {P:Program}{z:Bg}{g:Gh}{ds:List Deferred}{s:S}{a:Act}{w:World}(hR:R z g ds s a w){len cap:Nat}{lo hi:Option Operand}{K:Nat->Nat->Prop}(h:bndK s len lo hi K)
  (isS:Bool)(hc:len<=cap):
  ∃l u,K l u/\l<=u/\u<=len/\(Instr.sliceBounds isS len cap (lo.map a.eval) (hi.map a.eval) none).run P w=.ok (l,u,cap) w:=by
 unfold bndK at h;cases hi with|none=>{obtain⟨l,hK,hl,hr⟩:=zwH hR (K:=fun l=>K l len) h;refine⟨l,len,hK,hl,Nat.le_refl _,?_⟩;rcases hr with⟨rfl,rfl⟩|⟨o,k,n,rfl,hv,h0,h1,rfl⟩;{simp[Instr.sliceBounds]};{simp[Instr.sliceBounds,hv,qzI w k n len _ ⟨h0,h1⟩]}}|some o=>{obtain⟨x,hx,h⟩:=h;split at h;{rename_i k n;obtain⟨h0,h1,h⟩:=h;obtain⟨l,hK,hl,hr⟩:=zwH hR (K:=fun l=>K l n.toNat) h;have:=(qzH hR hx).unD;cases hv:a.eval o<;>rw[hv]at this<;>cases this;refine⟨l,n.toNat,hK,hl,by omega,?_⟩;have e1:=fun c=>qzI (P:=P) w k n cap c ⟨h0,by omega⟩;rcases hr with⟨rfl,rfl⟩|⟨o',k',n',rfl,hv',h0',h1',rfl⟩;{simp[Instr.sliceBounds,hv,e1]};{simp[Instr.sliceBounds,hv,e1,hv',qzI w k' n' n.toNat _ ⟨h0',h1'⟩]}};exact h.elim}
theorem zqu (b:Bs)(l u:Nat):(⟨b.toArray⟩:ByteArray).extract l u=⟨((b.take u).drop l).toArray⟩:=by
 apply ByteArray.ext;simp[ByteArray.data_extract,List.drop_take]
theorem wqc {P:Program}{E:Env}(ht:TOK P E.tl){z:Bg}{g:Gh}{ds:List Deferred}{s:S}{a:Act}{w:World}(hR:R z g ds s a w){t:TypeId}{x:LV}{lo hi:Option Operand}{K:LV->Prop}
  (h:wxD E s t x lo hi K){v:Value}(hx:LRp g x v):
  ∃r q,K r/\LRp g r q/\(Instr.sliceAt t v (lo.map a.eval) (hi.map a.eval) none).run P w=.ok q w:=by
 obtain⟨ti,hti,h⟩:=h;obtain⟨d0,hd0,hu⟩:=ht.und hti;split at h;{rename_i hd;obtain rfl:=zz1 (hd0.trans hd);split at h;{rename_i b;cases hx.unD;obtain⟨l,u,hK,hlu,hul,hr⟩:=zq4 (P:=P) hR (cap:=b.length) (K:=fun l u=>K (.d (.st ((b.take u).drop l)))) h false (Nat.le_refl _);refine⟨_,_,hK,.d (.st _),?_⟩;have hs:(⟨b.toArray⟩:ByteArray).size=b.length:=rfl;simp only[Instr.sliceAt,Sem.run_bind,hu,Result.andThen_ok,Instr.slice,Option.isSome_none,Bool.false_eq_true,if_false,Sem.run_pure,hs,hr,zqu]};exact h.elim};{rename_i e hd;obtain rfl:=qjh (hd0.trans hd);obtain⟨te,hte,h⟩:=h;have hse:=ht.sizeOf hte;split at h;{rename_i x;obtain⟨⟨xs,f⟩,hp,h⟩:=h;simp only at h;rcases qk2 hx.unD hp with⟨rfl,a',cap,rfl,hf,ha⟩|⟨hn,us,b,off,cap,rfl,hus,hsz,hc,hcap,hf⟩;{obtain⟨l,u,hK,hlu,hul,hr⟩:=zq4 (P:=P) hR (len:=0) (cap:=cap) (K:=fun l u=>K (.d (.sl te.size ((([]:List D).take u).drop l) false))) h true (Nat.zero_le _);have hu0:u=0:=Nat.le_zero.1 hul;subst hu0;have hl0:l=0:=Nat.le_zero.1 hlu;subst hl0;refine⟨_,.slice (if cap=0 then a' else a'.map (·.add (0*te.size))) (0-0) (cap-0),hK,?_,?_⟩;{refine .d (.sl0 _ _ _ _ (fun e=>by cases e) (fun e=>?_));split at e;{assumption};{cases a' with|none=>{exact ha rfl}|some _=>{simp at e}}};{simp only[Instr.sliceAt,Sem.run_bind,hu,Result.andThen_ok,Instr.slice,hr,hse,Sem.run_pure]}};{obtain ⟨l,u,hK,hlu,hul,hr⟩:=zq4 (P:=P) hR (len:=xs.length) (cap:=cap) (K:=fun l u=>K (.d (.sl te.size ((xs.take u).drop l) false))) h true hcap;refine⟨_,.slice (if cap=l then some ⟨b,off,none⟩else(some (⟨b,off,none⟩:Addr)).map (·.add (l*te.size))) (u-l) (cap-l),hK,?_,?_⟩;{by_cases hz:u=l;{subst hz;have hnil:(xs.take u).drop u=[]:=List.drop_eq_nil_of_le (by rw[List.length_take];exact Nat.min_le_left _ _);rw[hnil,Nat.sub_self];refine .d (.sl0 _ _ _ _ (fun e=>by cases e) (fun e=>?_));split at e<;>simp at e};{have hne:(xs.take u).drop l≠[]:=by{intro e;have:=congrArg List.length e;simp at this;omega};have hlen:((xs.take u).drop l).length=u-l:=by{simp;omega};have hcl:¬cap=l:=by{omega};simp only[hcl,if_false,Option.map_some,Addr.add_none];rw[<-hlen];refine .d (.sl b (off+l*te.size) (cap-l) hne ((hus.take u).drop l) ?_ ?_ (by rw[hlen];omega) (fun e=>by cases e));{intro i v hv;rw[List.getElem?_drop,List.getElem?_take]at hv;split at hv;exact hsz _ _ hv;{cases hv}};{intro i v hv j c hj;rw[List.getElem?_drop,List.getElem?_take]at hv;split at hv;{have:=hc _ _ hv j c hj;rwa [show off+l*te.size+i*te.size+j=off+(l+i)*te.size+j by rw[Nat.add_mul];omega]};{cases hv}}}};{simp only[Instr.sliceAt,Sem.run_bind,hu,Result.andThen_ok,Instr.slice,hr,hse,Sem.run_pure]}}};exact h.elim};exact h.elim
theorem zwP {P:Program}{E:Env}(ht:TOK P E.tl){s:S}{g:Gh}{w:World}(hw:Wd g s.bx s.ar w){t:TypeId}{x:LV}{K:LV->Prop}(h:zxp E s t x K){v:Value}(hx:LRp g x v)(ty:TypeId):
  ∃r q,K r/\LRp g r q/\(Builtin.len_ #[t] ty #[v]).run P w=.ok q w:=by
 obtain⟨ti,hti,h⟩:=h;obtain⟨d0,hd0,hu⟩:=ht.und hti;split at h;{rename_i hd;obtain rfl:=zz1 (hd0.trans hd);split at h;{rename_i b;cases hx.unD;refine⟨_,_,h,.d (.int _ _),?_⟩;have hs:(⟨b.toArray⟩:ByteArray).size=b.length:=rfl;simp[Builtin.len_,hu,goInt,hs]};exact h.elim};{rename_i e hd;obtain rfl:=qjh (hd0.trans hd);obtain⟨te,hte,h⟩:=h;split at h;{rename_i x;obtain⟨⟨xs,f⟩,hp,h⟩:=h;refine⟨_,_,h,.d (.int _ _),?_⟩;rcases qk2 hx.unD hp with⟨rfl,a',cap,rfl,hf⟩|⟨hn,us,b,off,cap,rfl,hus,hsz,hc,hcap,hf⟩<;>simp[Builtin.len_,hu,goInt]};{rename_i r sz n;obtain⟨a,ha,h1,h⟩:=h;cases hx with|os h0 hx=>{have hl:=hw.len r;rw[ha]at hl;have hv:=(hx _ hl).2 h1;subst hv;exact⟨_,_,h,.d (.int _ _),by simp[Builtin.len_,hu,goInt]⟩}};exact h.elim};exact h.elim
theorem wqV {P:Program}{E:Env}(ht:TOK P E.tl){s:S}{g:Gh}{w:World}(hw:Wd g s.bx s.ar w){t:TypeId}{x:LV}{K:LV->Prop}(h:zjk E s t x K){v:Value}(hx:LRp g x v)(ty:TypeId):
  ∃r q,K r/\LRp g r q/\(Builtin.len_ #[t] ty #[v]).run P w=.ok q w:=by
 unfold zjk at h;split at h;{rename_i p e;obtain rfl:=LV.ss_eq e;obtain⟨ti,hti,h⟩:=h;obtain⟨d0,hd0,hu⟩:=ht.und hti;split at h;{rename_i e hd;obtain rfl:=qjh (hd0.trans hd);obtain⟨te,hte,hK⟩:=h;have hx':=hx.unD;cases hx';exact⟨_,_,hK,.d (.int _ _),by simp[Builtin.len_,hu,goInt]⟩};exact h.elim};exact zwP ht hw h hx ty
theorem qqD:∀(vs:List Value) (b:Nat),(qxp b vs).length=vs.length /2
 |[],b=>by simp[qxp]
 |[x],b=>by simp[qxp]
 |x::y::vs,b=>by simp only[qxp,lB,qqD vs (b+1)];omega
theorem wqU {P:Program}{E:Env}(ht:TOK P E.tl){s:S}{g:Gh}{w:World}(hw:Wd g s.bx s.ar w){t:TypeId}{x:LV}{K:LV->Prop}(h:wkR E s t x K){v:Value}(hx:LRp g x v)(ty:TypeId):
  ∃r q,K r/\LRp g r q/\(Builtin.len_ #[t] ty #[v]).run P w=.ok q w:=by
 unfold wkR at h;split at h;{rename_i j;obtain⟨ti,hti,h⟩:=h;obtain⟨d0,hd0,hu⟩:=ht.und hti;split at h;{rename_i kt vt hd;obtain⟨b,hb,hty,hK⟩:=h;have hd':d0=.map kt vt:=by{(cases d0<;>simp only[dk]at hd0<;>rw[hd]at hd0<;>first|(cases hd0;done)|skip);cases hd0;rfl};subst hd';cases hx;obtain⟨vs,hvs,hh,_⟩:=hw.box j b hb;have ho:objOf b.ty vs=.map (qxp 0 vs).toArray (vs.length /2):=by{rw[hty];rfl};rw[ho]at hh;refine⟨_,_,hK,.d (.int _ _),?_⟩;have hl:(qxp 0 vs).length=vs.length /2:=qqD vs 0;have hg:(getObj (g.β j)).run P w=.ok (.map (qxp 0 vs).toArray (vs.length /2)) w:=by{simp[getObj,Sem.run,hh]};simp[Builtin.len_,hu,goInt,hg,hl,hvs.length]};exact h.elim};exact wqV ht hw h hx ty
theorem wxs {P:Program}{E:Env}(ht:TOK P E.tl){g:Gh}{t:TypeId}{x u v:LV}{K:LV->Prop}(h:wzG E t x u v K){a b c:Value}(hx:LRp g x a)(hu:LRp g u b)(hv:LRp g v c)(w:World):
  ∃r q,K r/\LRp g r q/\(Instr.sliceAt t a none (some b) (some c)).run P w=.ok q w:=by
 unfold wzG at h;split at h;{rename_i k n k' m;obtain⟨rfl,ti,hti,h⟩:=h;have hu':=hu.unD;have hv':=hv.unD;cases hu';cases hv';obtain⟨d0,hd0,hun⟩:=ht.und hti;split at h;{rename_i e hd;obtain rfl:=qjh (hd0.trans hd);obtain⟨te,hte,h⟩:=h;have hse:=ht.sizeOf hte;split at h;{rename_i p e;obtain rfl:=LV.ss_eq e;obtain⟨rfl,h0,h1,hK⟩:=h;have hx':=hx.unD;cases hx';have b1:=fun c'=>qzI (P:=P) w k (p.2.2.1:Int) p.2.2.2 c' ⟨by omega,by omega⟩;have b2:=fun c'=>qzI (P:=P) w k' (p.2.2.1:Int) p.2.2.2 c' ⟨by omega,by omega⟩;have b3:=fun c'=>qzI (P:=P) w k (p.2.2.1:Int) p.2.2.1 c' ⟨by omega,by omega⟩;have hn:¬p.2.2.1=0:=by{omega};exact⟨_,_,hK,.d (.imm _),by simp[Instr.sliceAt,hun,Instr.slice,Instr.sliceBounds,b1,b2,b3,hse,hn,Addr.add_none]⟩};{split at h;{rename_i y;obtain⟨⟨xs,f⟩,hp,rfl,hK⟩:=h;simp only at hK;rcases qk2 hx.unD hp with⟨rfl,a',cap,rfl,hf,ha⟩|⟨hne,us,b,off,cap,rfl,hus,hsz,hc,hcap,hf⟩;{have b1:=fun c'=>qzI (P:=P) w k 0 cap c' ⟨by omega,by omega⟩;have b2:=fun c'=>qzI (P:=P) w k' 0 cap c' ⟨by omega,by omega⟩;have b3:=fun c'=>qzI (P:=P) w k 0 0 c' ⟨by omega,by omega⟩;exact⟨_,_,hK,.d (.sl0 _ _ a' 0 (fun _=>rfl) (fun _=>rfl)),by simp[Instr.sliceAt,hun,Instr.slice,Instr.sliceBounds,b1,b2,b3,hse]⟩};{have h0:0<xs.length:=List.length_pos_iff.2 hne;have b1:=fun c'=>qzI (P:=P) w k (xs.length:Int) cap c' ⟨by omega,by omega⟩;have b2:=fun c'=>qzI (P:=P) w k' (xs.length:Int) cap c' ⟨by omega,by omega⟩;have b3:=fun c'=>qzI (P:=P) w k (xs.length:Int) xs.length c' ⟨by omega,by omega⟩;have hn:¬xs.length=0:=by{omega};exact⟨_,_,hK,.d (.sl b off xs.length hne hus hsz hc (Nat.le_refl _) (fun _=>rfl)),by simp[Instr.sliceAt,hun,Instr.slice,Instr.sliceBounds,b1,b2,b3,hse,hne,Addr.add_none]⟩}};exact h.elim}};exact h.elim};exact h.elim
theorem qv1:∀(xs:List Value) (k off:Nat) (pre:List Value) (post:List Value),pre.length=off+k->xs.length<=post.length->
  (xs.zipIdx k).foldl (fun(cs:Array Value) (p:Value×Nat)=>cs.setIfInBounds (off+p.2) p.1) (pre++post).toArray=(pre++xs++post.drop xs.length).toArray
 |[],k,off,pre,post,_,_=>by simp
 |x::xs,k,off,pre,[],_,h=>by simp at h
 |x::xs,k,off,pre,p::post,hp,h=>by
  simp only[List.zipIdx_cons,List.foldl_cons];have e:(pre++p::post).toArray.setIfInBounds (off+k) x=((pre++[x])++post).toArray:=by{rw[<-hp];simp};rw[e,qv1 xs (k+1) off (pre++[x]) post (by simp;omega) (by simpa using h)];simp
theorem zjv {g:Gh}{place:Nat->Option (Nat×Nat)}:∀(ps:List (Nat×LV)) (qs:List (Nat×Value)) (cells:List LV) (vs:List Value),LRps g cells vs->
  ps.length=qs.length->(∀(n i:Nat) (x:LV),ps[n]?=some (i,x)->∃v,qs[n]?=some (i,v)/\LRp g x v)->∀cs,fillP place cells ps=some cs->
  ∃us,Instr.fill place vs.toArray qs=some us.toArray/\LRps g cs us
 |[],[],cells,vs,hc,_,_,cs,h=>by
   simp only[fillP,Option.some.injEq]at h;subst h;exact⟨vs,rfl,hc⟩
 |(i,x)::ps,q::qs,cells,vs,hc,hl,hp,cs,h=>by
   obtain⟨v,hq,hx⟩:=hp 0 i x rfl;simp only[List.getElem?_cons_zero,Option.some.injEq]at hq;subst hq;simp only[fillP]at h;simp only[Instr.fill];split at h;{rename_i off size ds hpl hpc;split at h;{rename_i hcond;obtain⟨hsz,hle⟩:=hcond;obtain⟨us,hus,hvc⟩:∃us,LRps g ds us/\v.cells=us.toArray:=by{unfold pcs at hpc;split at hpc;{rename_i es hlc;simp only[Option.some.injEq]at hpc;subst hpc;obtain⟨us,rfl,hus⟩:=qkZ hx hlc;exact⟨us,hus,by simp[Value.cells]⟩};{split at hpc;{rename_i hone;simp only[Option.some.injEq]at hpc;subst hpc;exact⟨[v],.cons hx .nil,qji (qwr hx hone)⟩};{cases hpc}}};have hlu:=hus.length;rw[hpl];simp only;rw[if_neg (by simp[hvc,<-hlu,hsz,<-hc.length];omega)];have e:v.cells.zipIdx.foldl (fun cs x=>match x with|(c,j)=>cs.setIfInBounds (off+j) c) vs.toArray=(vs.take off++us++vs.drop (off+us.length)).toArray:=by{rw[<-Array.foldl_toList,Array.toList_zipIdx,hvc];have:=qv1 us 0 off (vs.take off) (vs.drop off) (by simp[<-hc.length];omega) (by simp[<-hc.length,<-hlu];omega);rw[List.take_append_drop]at this;rw[List.drop_drop]at this;exact this};rw[e];exact zjv ps qs _ _ ((((hc.take off).append hus)).append (by rw[<-hlu];exact hc.drop _)) (by simpa using hl) (fun n i x hn=>by simpa using hp (n+1) i x (by simpa using hn)) cs h};{cases h}};{cases h}
 |[],_::_,_,_,_,hl,_,_,_=>by simp at hl
 |_::_,[],_,_,_,hl,_,_,_=>by simp at hl
theorem qvI {z:Bg}{g:Gh}{ds:List Deferred}{s:S}{a:Act}{w:World}(hR:R z g ds s a w):∀{ps:List (Nat×Operand)} {xs:List (Nat×LV)},s.evs ps=some xs->
  xs.length=ps.length/\(∀(n i:Nat) (x:LV),xs[n]?=some (i,x)->∃v,(ps.map fun p=>(p.1,a.eval p.2))[n]?=some (i,v)/\LRp g x v)/\LRps g (xs.map (·.2)) (ps.map fun p=>a.eval p.2)
 |[],xs,h=>by
   simp only[S.evs,Option.some.injEq]at h;subst h;exact⟨rfl,fun n i x hn=>by simp at hn,.nil⟩
 |(j,o)::ps,xs,h=>by
   simp only[S.evs]at h;split at h;{rename_i x ys hx hys;simp only[Option.some.injEq]at h;subst h;obtain⟨h1,h2,h3⟩:=qvI hR hys;refine⟨by simp[h1],fun n i y hn=>?_,.cons (qzH hR hx) h3⟩;cases n with|zero=>{simp only[List.getElem?_cons_zero,Option.some.injEq,Prod.mk.injEq]at hn;obtain⟨rfl,rfl⟩:=hn;exact⟨_,rfl,qzH hR hx⟩}|succ n=>{simpa using h2 n i y (by simpa using hn)}};{cases h}
theorem yzq (g:Gh)(v:Value)(h:v.oneCell'=true\/∃cs,v=.agg cs):LRps g (vcs v) v.cells.toList:=by
 unfold vcs;cases v with|agg cs=>{simp only[cv,D.lcs,Value.cells];exact LRps.ofD (zq0 _ _)}|tuple vs=>{rcases h with h|⟨cs,h⟩<;>simp[Value.oneCell']at h}|_=>{simp only[cv,Value.cells];refine .cons ?_ .nil;first|exact .d (zk6 _ _)|exact .d (.int _ _)|exact .d (.bool _)}
def TI.flat (i:TI):Bool:=match i.zero with
 |.agg _=>true
 |v=>v.oneCell'
theorem zzm {P:Program}{E:Env}(ht:TOK P E.tl)(w:World):∀(fs:List Field),(fs.all fun f=>(E.ti f.type).isSome)=true->
  (fs.mapM fun f=>(do pure (f.offset,<-sizeOf f.type):Sem (Nat×Nat))).run P w=.ok (fs.map fun f=>(f.offset,((E.ti f.type).map (·.size)).getD 0)) w
 |[],_=>rfl
 |f::fs,h=>by
  simp only[List.all_cons,Bool.and_eq_true]at h;obtain⟨i,hi⟩:=Option.isSome_iff_exists.1 h.1;have ih:=zzm ht w fs h.2;have:=ht.sizeOf hi w;simp only[List.mapM_cons,Sem.run_bind,this,Result.andThen_ok,Sem.run_pure,ih,List.map_cons,hi,Option.map_some,Option.getD_some]
theorem TOK.vcs {P:Program}{tl:List (Nat×TI)}(g:Gh){v:Value}(h:∀vs,v≠ .tuple vs):LRps g (vcs v) v.cells.toList:=by
 refine yzq g v ?_;cases v<;>first|exact .inl rfl|exact .inr ⟨_,rfl⟩|exact absurd rfl (h _)
def qwu:Value->Bool
 |.tuple _=>false
 |_=>true
theorem wxy {P:Program}{E:Env}(ht:TOK P E.tl){z:Bg}{g:Gh}{ds:List Deferred}{s:S}{a:Act}{w:World}(hR:R z g ds s a w){t:TypeId}{ps:List (Nat×Operand)}{K:LV->Prop}
  (h:bldK E s t ps K)(hz:∀i,E.ti t=some i->qwu i.zero=true):
  ∃r q,K r/\LRp g r q/\(Instr.build t (ps.map fun p=>(p.1,a.eval p.2)).toArray).run P w=.ok q w:=by
 obtain⟨ti,hti,xs,hxs,h⟩:=h;obtain⟨d0,hd0,hu⟩:=ht.und hti;have hzero:=ht.zero hti w;have hvc:LRps g (Lx.vcs ti.zero) ti.zero.cells.toList:=TOK.vcs (P:=P) (tl:=E.tl) g (fun vs e=>by have:=hz ti hti;rw[e]at this;simp[qwu]at this);obtain⟨h1,h2,_⟩:=qvI hR hxs;split at h;{rename_i hstr;obtain⟨hall,cs,hf,hK⟩:=h;obtain⟨l,hd⟩:∃l,ti.desc=.st l:=by{unfold TI.str at hstr;split at hstr;{rename_i fs hd;exact⟨fs,hd⟩};{cases hstr}};obtain⟨fs,rfl,rfl⟩:=wv4 (hd0.trans hd);have hfl:ti.fields=fs.toList.map fun f=>(f.offset,f.type):=by{unfold TI.fields;rw[hd]};obtain⟨us,hus,hr⟩:=zjv xs (ps.map fun p=>(p.1,a.eval p.2)) _ _ hvc (by simpa using h1) h2 cs hf;refine⟨_,_,hK,wkM hr,?_⟩;have hall':(fs.toList.all fun f=>(E.ti f.type).isSome)=true:=by{rw[hfl,List.all_map]at hall;exact hall};have hpl:=zzm ht w fs.toList hall';have hfun:place E ti=fun(i:Nat)=>(fs.toList.map fun(f:Field)=>(f.offset,((E.ti f.type).map (·.size)).getD 0)).toArray[i]?:=by{funext i;unfold place;rw[hfl];simp only[List.getElem?_toArray,List.getElem?_map,Array.getElem?_toList];cases hfi:fs[i]? with|none=>{rfl}|some f=>{have hm:f∈fs.toList:=by{have:=Array.mem_of_getElem? hfi;simpa using this};obtain⟨j,hj⟩:=Option.isSome_iff_exists.1 (List.all_eq_true.1 hall' f hm);simp[hj]}};rw[hfun]at hus;rw[show ti.zero.cells.toList.toArray=ti.zero.cells from by simp]at hus;simp only[Instr.build,Sem.run_bind,hzero,Result.andThen_ok,hu,Array.mapM_eq_mapM_toList,Sem.run_map,hpl,Sem.run_pure];rw[hus];rfl};split at h;{rename_i n e hd;obtain rfl:=wzm (hd0.trans hd);obtain⟨te,hte,cs,hf,hK⟩:=h;obtain⟨us,hus,hr⟩:=zjv xs (ps.map fun p=>(p.1,a.eval p.2)) _ _ hvc (by simpa using h1) h2 cs hf;refine⟨_,_,hK,wkM hr,?_⟩;rw[show ti.zero.cells.toList.toArray=ti.zero.cells from by simp]at hus;simp[Instr.build,hzero,hu,ht.sizeOf hte,hus]};exact h.elim
def ZOK (tl:List (Nat×TI)):Prop:=∀t i,(t,i)∈tl->qwu i.zero=true
theorem prt_run' {P:Program}{E:Env}(ht:TOK P E.tl){t:TypeId}{i:TI}{f:Nat}{off:Nat}{ft:TypeId}(hti:E.ti t=some i)(hf:fldOff i f=some (off,ft)):
  ∃fs fd,(∀w,(underlying t).run P w=.ok (.struct fs) w)/\fs[f]?=some fd/\fd.offset=off/\fd.type=ft:=by
 obtain⟨d0,hd0,hu⟩:=ht.und hti;unfold fldOff TI.fields at hf;split at hf;{rename_i l hd;obtain⟨fs,rfl,rfl⟩:=wv4 (hd0.trans hd);simp only[List.getElem?_map,Array.getElem?_toList,Option.map_eq_some_iff,Prod.mk.injEq]at hf;obtain⟨fd,h1,h2,h3⟩:=hf;exact⟨fs,fd,hu,h1,h2,h3⟩};{simp at hf}
theorem wkS {P:Program}{E:Env}(ht:TOK P E.tl){t:TypeId}{i:TI}(hi:lkp t E.tl=some i){z:Bg}[Stb E z] {g:Gh}{s:S}{w:World}(hw:Rw z g s.bx s.ar w)
  {x:LV}{v:Value}(hx:LRp g x v){K:LV->Prop}(h:ldX E s i x K):∃y u,K y/\LRp g y u/\(Instr.loadAt t v).run P w=.ok u w:=by
 unfold ldX at h;split at h;{rename_i p e;obtain rfl:=LV.sp_eq e;have hx':=hx.unD;cases hx';have:=LRp.bp (g:=g) (p.1+1000000) p.2;rw[Stb.get h.1 hw]at this;exact zjl ht hi hw.wd this h.2};exact zjl ht hi hw.wd hx h
theorem zzA {P:Program}{E:Env}(ht:TOK P E.tl)(hzt:ZOK E.tl){z:Bg}[Stb E z] {g:Gh}{ds:List Deferred}{s:S}{a:Act}{w:World}(hR:R z g ds s a w){o:Oper}{K:LV->Prop}
  (h:valK E o.op s K):∃r q,K r/\LRp g r q/\(execOp a.eval o).run P w=.ok (.value q) w:=by
 unfold valK at h;split at h;(case h_1 x e=>obtain⟨r,hr,hK⟩:=h;exact⟨r,_,hK,qzH hR hr,by simp[execOp,e]⟩);(case h_2 x e=>obtain⟨r,hr,hK⟩:=h;exact⟨r,_,hK,qzH hR hr,by simp[execOp,e]⟩);(case h_3 c x y e=>obtain⟨cv,hc,h⟩:=h;unfold LV.tr at h;split at h;{rename_i b;have:=(qzH hR hc).unD;cases hv:a.eval c<;>rw[hv]at this<;>cases this;cases b with|true=>{obtain⟨r,hr,hK⟩:=h.1 rfl;exact⟨r,_,hK,qzH hR hr,by simp[execOp,e,hv,asBool]⟩}|false=>{obtain⟨r,hr,hK⟩:=h.2 rfl;exact⟨r,_,hK,qzH hR hr,by simp[execOp,e,hv,asBool]⟩}};exact h.elim);(case h_4 t ps e=>obtain⟨r,q,hK,hr,hq⟩:=wxy ht hR h (fun i hi=>hzt _ _ (qqi hi));refine⟨r,q,hK,hr,?_⟩;have:(ps.map fun x=>match x with|(i,x)=>(i,a.eval x))=(ps.toList.map fun p=>(p.1,a.eval p.2)).toArray:=by{apply Array.ext';simp};simp only[execOp,e,Sem.run_bind];rw[this,hq];rfl);(case h_5 t x e=>obtain⟨i,hi,h⟩:=h;have plain:(sm (s.ev x) fun x=>ldX E s i x K)->∃r q,K r/\LRp g r q/\(execOp a.eval o).run P w=.ok (.value q) w:=by{rintro⟨r,hr,h⟩;obtain⟨y,u,hK,hu,hq⟩:=wkS ht hi hR.rw (qzH hR hr) h;exact⟨y,u,hK,hu,by simp[execOp,e,hq]⟩};unfold ldA at h;split at h;{obtain⟨rfl,hag,hK⟩:=h;obtain⟨v,hv⟩:=hR.wd.glo;obtain⟨h1,h2⟩:=hR.wd.fix _ _ _ hv;have:=qk5 ht hi w wjh 0 [.iface v.1 v.2] (fun j v' hj=>by{cases j with|zero=>{simp at hj;subst hj;simpa using h1}|succ j=>simp at hj}) (fun e=>by rw[hag]at e;cases e) (fun _=>by simp);rw[hag]at this;refine⟨_,_,hK _ h2,.d (.imm _),?_⟩;simp only[Bool.false_eq_true,if_false]at this;simp[execOp,e,Act.eval,Instr.loadAt,Instr.sureAddr,this]};exact plain h);(case h_6 x e=>obtain⟨r,hr,h⟩:=h;have hv:=qzH hR hr;split at h;{cases hx:a.eval x<;>rw[hx]at hv<;>cases hv;exact⟨_,_,h,.bp _ _,by simp[execOp,e,hx]⟩};{cases hx:a.eval x<;>rw[hx]at hv<;>cases hv;rename_i b o hc hp;exact⟨_,_,h,.ep b o _ hp hc,by simp[execOp,e,hx]⟩};{cases hx:a.eval x<;>rw[hx]at hv<;>cases hv;rename_i h1 h2;exact⟨_,_,h,.fn _ h1 h2,by simp[execOp,e,hx]⟩};{have hv':=hv.unD;cases hx:a.eval x<;>rw[hx]at hv'<;>cases hv';exact⟨_,_,h,.d (.imm _),by simp[execOp,e,hx]⟩};exact h.elim);(case h_7 op t x y yt e=>obtain⟨u,hu,v,hv,h⟩:=h;obtain⟨r,q,hK,hr,hq⟩:=wxz ht h (qzH hR hu) (qzH hR hv) w;refine⟨r,q,hK,hr,?_⟩;simp only[execOp,e];rw[Sem.run_bind,hq];rfl);(case h_8 op t x e=>obtain⟨u,hu,h⟩:=h;have hv:=qzH hR hu;split at h;{have:=hv.unD;cases hx:a.eval x<;>rw[hx]at this<;>cases this;exact⟨_,_,h,.d (.bool _),by simp[execOp,e,hx,Op.unary]⟩};{have:=hv.unD;cases hx:a.eval x<;>rw[hx]at this<;>cases this;obtain⟨r,hK,hr⟩:=qwP h;exact⟨r,_,hK,hr g,by simp[execOp,e,hx,Op.unary,Op.intArith]⟩};exact h.elim);(case h_9 src dst x e=>obtain⟨i,hi,j,hj,u,hu,h⟩:=h;have hv:=qzH hR hu;split at h;{rename_i k k' n hd;have:=hv.unD;cases hx:a.eval x<;>rw[hx]at this<;>cases this;obtain⟨r,hK,hr⟩:=qwP h;obtain⟨d1,_,hu1⟩:=ht.und hi;obtain⟨d2,hd2,hu2⟩:=ht.und hj;obtain rfl:=zk4 (hd2.trans hd);have h1:=hu1 w;have h2:=hu2 w;refine⟨r,_,hK,hr g,?_⟩;simp[execOp,e,hx,convert,h1,h2,Conv.intToInt]};exact h.elim);(case h_10 t x e=>obtain⟨i,hi,u,hu,h⟩:=h;have hv:=qzH hR hu;obtain⟨d0,hd0,hu0⟩:=ht.und hi;have h1:=hu0 w;split at h;exact h.elim;{rename_i d hd;refine⟨_,_,h,.d (.ifc t hv.unD),?_⟩;simp only[execOp,e,Instr.makeInterface,Sem.run_bind,h1,Result.andThen_ok];cases d0<;>first|rfl|exact absurd hd0.symm hd};{rename_i k off hd;cases hx:a.eval x<;>rw[hx]at hv<;>cases hv;refine⟨_,.iface t (.pointer (some ⟨g.β k,off,none⟩)),h ⟨g.β k,off,none⟩,.d (.ifc t (.imm _)),?_⟩;simp only[execOp,e,hx,Instr.makeInterface,Sem.run_bind,h1,Result.andThen_ok];cases d0<;>first|rfl|exact absurd hd0.symm hd};exact h.elim);(case h_11 f xs ys e=>obtain⟨us,hus,vs,hvs,hK⟩:=h;obtain⟨_,_,h1⟩:=qvI hR hus;obtain⟨_,_,h2⟩:=qvI hR hvs;refine⟨_,_,hK,.fn f h1 h2,?_⟩;simp only[execOp,e,Instr.makeFunc,Sem.run_bind,Sem.run_pure,Result.andThen_ok];congr 3<;>(apply Array.ext';simp));(case h_12 t x f e=>obtain⟨i,hi,⟨off,ft⟩,hp,fi,hfi,hz,u,hu,h⟩:=h;obtain⟨fs,fd,hd,hf,rfl,rfl⟩:=prt_run' ht hi hp;have h1:=hd w;have hs:=ht.sizeOf hfi;have hv:=qzH hR hu;have key:∀b k,(Instr.fieldAt t (.pointer (some ⟨b,k,none⟩)) f).run P w=.ok (.pointer (some ⟨b,k+fd.offset,none⟩)) w:=by{intro b k;simp[Instr.fieldAt,h1,hf,Instr.sureAddr,fieldPlace,hs,hz,Addr.add_none]};split at h;{cases hx:a.eval x<;>rw[hx]at hv<;>cases hv;exact⟨_,_,h,.bp _ _,by simp[execOp,e,hx,key]⟩};{cases hx:a.eval x<;>rw[hx]at hv<;>cases hv;rename_i b k hc hp;exact⟨_,.pointer (some ⟨b,k+(_+fd.offset),none⟩),h,.ep b k _ hp hc,by simp[execOp,e,hx,key,Nat.add_assoc]⟩};{have hv':=hv.unD;cases hx:a.eval x<;>rw[hx]at hv'<;>cases hv';exact⟨_,_,h,.d (.imm _),by simp[execOp,e,hx,key]⟩};{rename_i r sz n j k;obtain⟨ar,har,hn,hK⟩:=h;cases hv with|ap h0 hv=>{have hl:=hR.wd.len r;rw[har]at hl;have hx:=(hv _ hl).2 hn;refine⟨_,.pointer (some ⟨(g.α r).1,j*sz+(k+fd.offset),none⟩),hK,.ap rfl fun m hm=>?_,by simp[execOp,e,hx,key,Nat.add_assoc]⟩;rw[hl]at hm;simp only[Option.map_some,Option.some.injEq]at hm;exact⟨by rw[<-hm,hn];exact Nat.le_refl _,fun _=>rfl⟩}};exact h.elim);(case h_13 t x f e=>obtain⟨i,hi,⟨off,ft⟩,hp,fi,hfi,v,hv,cs,hcs,y,hy,hK⟩:=h;obtain⟨fs,fd,hd,hf,rfl,rfl⟩:=prt_run' ht hi hp;have h1:=hd w;obtain⟨vs,hx,hvs⟩:=qkZ (qzH hR hv) hcs;obtain⟨q,hq,hr⟩:=zjU ht hfi w hvs hy;exact⟨y,q,hK,hq,by simp[execOp,e,Instr.field,h1,hf,hx,asAgg,hr]⟩);(case h_14 t x i e=>obtain⟨v,hv,j,hj,h⟩:=h;split at h;{rename_i k n;have hi:a.eval i=.int k n:=by{have:=(qzH hR hj).unD;generalize a.eval i=v at this;cases this;rfl};obtain⟨r,q,hK,hr,hq⟩:=zwT (k:=k) ht h hR.wd (qzH hR hv);exact⟨r,q,hK,hr,by simp[execOp,e,hi,hq w]⟩};exact h.elim);(case h_15 t x i e=>obtain⟨v,hv,j,hj,h⟩:=h;split at h;{rename_i k n;have hi:a.eval i=.int k n:=by{have:=(qzH hR hj).unD;generalize a.eval i=v at this;cases this;rfl};obtain⟨r,q,hK,hr,hq⟩:=wxb (k:=k) ht h w (qzH hR hv);exact⟨r,q,hK,hr,by simp[execOp,e,hi,hq]⟩};exact h.elim);(case h_16 t x lo hi e=>obtain⟨v,hv,h⟩:=h;obtain⟨r,q,hK,hr,hq⟩:=wqc ht hR h (qzH hR hv);refine⟨r,q,hK,hr,?_⟩;simp only[execOp,e,Option.map_none,Sem.run_bind,hq];rfl);(case h_17 x i e=>obtain⟨v,hv,h⟩:=h;have hx:=qzH hR hv;split at h;{obtain⟨y,hy,hK⟩:=h;cases hx':a.eval x<;>rw[hx']at hx<;>cases hx;rename_i vs h1;obtain⟨q,hq,hr⟩:=h1.get hy;exact⟨y,q,hK,hr,by simp[execOp,e,hx',Instr.extract,hq]⟩};exact h.elim);(case h_18 x xt t ok e=>obtain⟨i,hi,u,hu,h⟩:=h;have hv:=qzH hR hu;obtain⟨d0,hd0,hu0⟩:=ht.und hi;have h1:=hu0 w;have hz:=ht.zero hi w;unfold taK at h;split at h;exact h.elim;{rename_i d t' y hd;have hv':=hv.unD;cases hx:a.eval x<;>rw[hx]at hv'<;>cases hv';rename_i q hq;by_cases e1:t'=t;{have hK:=h.1 e1;subst e1;cases ok with|true=>{exact⟨_,_,hK,.tup (.cons (.d hq) (.cons (.d (.bool true)) .nil)),by simp only[execOp,e,hx,Instr.typeAssert,Sem.run_bind,h1,Result.andThen_ok];cases d0<;>first|(exact absurd hd0.symm hd)|rfl|simp⟩}|false=>{exact⟨_,_,hK,.d hq,by simp only[execOp,e,hx,Instr.typeAssert,Sem.run_bind,h1,Result.andThen_ok];cases d0<;>first|(exact absurd hd0.symm hd)|rfl|simp⟩}};{obtain⟨rfl,hK⟩:=h.2 e1;refine⟨_,_,hK,.tup (.cons (wzr g _) (.cons (.d (.bool false)) .nil)),?_⟩;simp only[execOp,e,hx,Instr.typeAssert,Sem.run_bind,h1,Result.andThen_ok];cases d0<;>first|(exact absurd hd0.symm hd)|simp[e1,hz]}};{rename_i d hd;obtain⟨rfl,hK⟩:=h;have hx:a.eval x=.nilIface:=by{have hv':=hv.unD;generalize a.eval x=q at hv';cases hv';rfl};refine⟨_,_,hK,.tup (.cons (wzr g _) (.cons (.d (.bool false)) .nil)),?_⟩;simp only[execOp,e,hx,Instr.typeAssert,Sem.run_bind,h1,Result.andThen_ok];cases d0<;>first|(exact absurd hd0.symm hd)|simp[hz]};exact h.elim);(case h_19 args tys e=>split at h;{rename_i x t hargs htys;obtain⟨v,hv,h⟩:=h;obtain rfl:args=#[x]:=by{apply Array.ext';simpa using hargs};obtain rfl:tys=#[t]:=by{apply Array.ext';simpa using htys};obtain⟨v',h,hv'⟩:=zzY h hR.rw (qzH hR hv);obtain⟨r,q,hK,hr,hq⟩:=wqU ht hR.wd h hv' o.type;exact⟨r,q,hK,hr,by simp[execOp,e,resolve,invoke,builtin,hq]⟩};exact h.elim);(case h_20 args tys e=>split at h;{rename_i x y hargs;obtain⟨u,hu,v,hv,h⟩:=h;obtain rfl:args=#[x,y]:=by{apply Array.ext';simpa using hargs};have h1:=qzH hR hu;have h2:=qzH hR hv;unfold mmK at h;split at h;{rename_i k m k' n;obtain⟨rfl,h⟩:=h;have h3:=h1.unD;have h4:=h2.unD;cases hx:a.eval x<;>rw[hx]at h3<;>cases h3;cases hy:a.eval y<;>rw[hy]at h4<;>cases h4;exact⟨_,_,h,.d (.int _ _),by simp[execOp,e,resolve,invoke,builtin,hx,hy,run_max_int2]⟩};exact h.elim};exact h.elim);(case h_21 args tys e=>split at h;{rename_i x y hargs;obtain⟨u,hu,v,hv,h⟩:=h;obtain rfl:args=#[x,y]:=by{apply Array.ext';simpa using hargs};have h1:=qzH hR hu;have h2:=qzH hR hv;unfold mmK at h;split at h;{rename_i k m k' n;obtain⟨rfl,h⟩:=h;have h3:=h1.unD;have h4:=h2.unD;cases hx:a.eval x<;>rw[hx]at h3<;>cases h3;cases hy:a.eval y<;>rw[hy]at h4<;>cases h4;exact⟨_,_,h,.d (.int _ _),by simp[execOp,e,resolve,invoke,builtin,hx,hy,run_min_int2]⟩};exact h.elim};exact h.elim);(case h_22 t x u v e=>obtain⟨xv,hx,uv,hu,vv,hv,h⟩:=h;obtain⟨r,q,hK,hr,hq⟩:=wxs ht h (qzH hR hx) (qzH hR hu) (qzH hR hv) w;refine⟨r,q,hK,hr,?_⟩;simp only[execOp,e,Option.map_none,Option.map_some,Sem.run_bind,hq];rfl);case h_23=>exact h.elim
end Lx
