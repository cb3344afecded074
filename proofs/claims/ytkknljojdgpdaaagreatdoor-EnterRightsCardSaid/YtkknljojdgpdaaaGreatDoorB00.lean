import Derived.WalkKit
import Derived.Laws.AppendOwn
import Derived.Laws.StructEq
set_option maxHeartbeats 32000000
theorem lA (n:Nat):(n:Int).toNat=n:=rfl
theorem lB {α:Type _}{a:α}{aZ:List α}:(a::aZ).length=aZ.length+1:=rfl
theorem lC {α:Type _}{aZ bs:List α}:(aZ++bs).length=aZ.length+bs.length:=List.length_append
theorem lD {α:Type _}{l:List α}{i:Nat}(h:i<l.length):l[i]?=some l[i]:=List.getElem?_eq_getElem h
theorem lE {α:Type _}{β:Type _}{aZ:List α}(f:α->β):(aZ.map f).length=aZ.length:=List.length_map f
theorem lF {p:Prop}[inst:Decidable p] (h:decide p=true):p:=of_decide_eq_true h
theorem lG {p:Prop}[inst:Decidable p] (h:decide p=false):¬p:=of_decide_eq_false h
theorem lH {α:Type _}:([]:List α).length=0:=rfl
namespace Lg
abbrev Bs:=List UInt8
structure Tok where
 kind:Int
 text:Bs
 num:Int
 pos:Int
deriving Inhabited,DecidableEq
inductive Tree where
 |node (kind:Int) (text:Bs) (num:Int) (pos:Int) (kids:List Tree)
namespace Tree
def kind:Tree->Int|node k _ _ _ _=>k
def text:Tree->Bs|node _ t _ _ _=>t
def num:Tree->Int|node _ _ n _ _=>n
def pos:Tree->Int|node _ _ _ p _=>p
def kids:Tree->List Tree|node _ _ _ _ ks=>ks
def withKind (k:Int):Tree->Tree|node _ t n p ks=>node k t n p ks
def withNum (m:Int):Tree->Tree|node k t _ p ks=>node k t m p ks
def withPos (q:Int):Tree->Tree|node k t n _ ks=>node k t n q ks
def withKids (ls:List Tree):Tree->Tree|node k t n p _=>node k t n p ls
end Tree
abbrev PR (α:Type):=Except (Int×Int) (α×List Tok)
def hd (ts:List Tok):Tok:=ts.headD default
def isT (s:Bs)(ts:List Tok):Bool:=((hd ts).kind==2||(hd ts).kind==4)&&(hd ts).text==s
def flt {α:Type}(e:Int)(ts:List Tok):PR α:=.error ((hd ts).pos,e)
def qvV (s:Bs)(ts:List Tok):PR Unit:=if isT s ts then .ok ((),ts.tail)else flt 20 ts
def take (k:Int)(ts:List Tok):PR Tok:=if(hd ts).kind=k then .ok (hd ts,ts.tail)else flt 20 ts
def bnd {α β:Type}(x:PR α)(f:α->List Tok->PR β):PR β:=
 match x with
 |.error e=>.error e
 |.ok (a,ts)=>f a ts
def name (ts:List Tok):PR Tree:=bnd (take 1 ts) fun t ts=>.ok (.node 5 t.text 0 t.pos [],ts)
def qkT (yks:Int)(ts:List Tok):PR Int:=bnd (take 3 ts) fun t ts=>.ok (yks*t.num,ts)
def yzS:Bs:=[43]
def zvS:Bs:=[45]
def sLt:Bs:=[60]
def sLe:Bs:=[60,61]
def wqo:Bs:=[61,61]
def sEq:Bs:=[61]
def yzX:Bs:=[44]
def wqk:Bs:=[40]
def wqj:Bs:=[41]
def ykw:Bs:=[91]
def ykv:Bs:=[93]
def jqE:Bs:=[123]
def kzp:Bs:=[125]
def yzY:Bs:=[58]
def wqi:Bs:=[59]
def wjQ:Bs:=[38]
def wxH:Bs:=[45,62]
def zvR:Bs:=[111,119,110]
def wqp:Bs:=[99,101,108,108]
def zzQ:Bs:=[99,111,117,110,116,101,100]
def wql:Bs:=[108,111,99,107]
def zvP:Bs:=[117,110,108,111,99,107]
def zvT:Bs:=[103,117,97,114,100]
def wxG:Bs:=[119,104,101,114,101]
def yzT:Bs:=[105,110,116]
def jqD:Bs:=[109,117,116]
def qwl:Bs:=[38,109,117,116]
def yzU:Bs:=[102,114,101,101]
def sIf:Bs:=[105,102]
def yzW:Bs:=[101,108,115,101]
def wxF:Bs:=[119,104,105,108,101]
def zvQ:Bs:=[114,101,116,117,114,110]
def wxJ:Bs:=[97,98,111,114,116]
def yzV:Bs:=[102,111,114,107]
def kzq:Bs:=[110,101,119]
def wxI:Bs:=[97,114,114,97,121]
def yzR:Bs:=[116,121,112,101]
def sFn:Bs:=[102,110]
def more (n:Tree)(ts:List Tok):PR Tree:=
 if isT yzS ts then bnd (qkT 1 ts.tail) fun v ts=>.ok (n.withNum v,ts)
 else if isT zvS ts then bnd (qkT (-1) ts.tail) fun v ts=>.ok (n.withNum v,ts)
 else .ok (n,ts)
def term (ts:List Tok):PR Tree:=
 if(hd ts).kind=3 then bnd (qkT 1 ts) fun v ts'=>.ok (.node 5 [] v (hd ts).pos [],ts')
 else if isT zvS ts then bnd (qkT (-1) ts.tail) fun v ts'=>.ok (.node 5 [] v (hd ts).pos [],ts')
 else bnd (name ts) more
def cmp (ts:List Tok):PR Bs:=
 if isT sLt ts then .ok (sLt,ts.tail)else if isT sLe ts then .ok (sLe,ts.tail)else if isT wqo ts then .ok (wqo,ts.tail)else flt 20 ts
def qq2 (one:List Tok->PR Tree)(ts:List Tok):PR (List Tree):=
 if isT yzX ts then
  match one ts.tail with
  |.error e=>.error e
  |.ok (x,ts')=>
    if ts'.length<ts.length then
     bnd (qq2 one ts') fun xs ts''=>.ok (x::xs,ts'')
    else .error (0,0)
 else .ok ([],ts)
termination_by ts.length
def wqR (one:List Tok->PR Tree)(ts:List Tok):PR (List Tree):=
 bnd (one ts) fun x ts=>bnd (qq2 one ts) fun xs ts=>.ok (x::xs,ts)
def args (ts:List Tok):PR (List Tree):=
 bnd (qvV wqk ts) fun _ ts=>
  if isT wqj ts then .ok ([],ts.tail)
  else bnd (wqR term ts) fun xs ts=>bnd (qvV wqj ts) fun _ ts=>.ok (xs,ts)
def sort (ts:List Tok):PR Tree:=
 if isT zvR ts then .ok (.node 2 (hd ts).text 0 (hd ts).pos [],ts.tail)
 else if isT wqp ts then .ok (.node 2 (hd ts).text 0 (hd ts).pos [],ts.tail)
 else if isT zzQ ts||isT wql ts||isT zvT ts then
  bnd (name ts.tail) fun k ts'=>.ok (.node 2 (hd ts).text 0 (hd ts).pos [k],ts')
 else flt 20 ts
def field (ts:List Tok):PR Tree:=
 bnd (name ts) fun n ts=>
  if isT ykw ts then bnd (name ts.tail) fun k ts=>bnd (qvV ykv ts) fun _ ts=>.ok ((n.withKind 3).withKids [k],ts)
  else .ok (n.withKind 3,ts)
def fact (ts:List Tok):PR Tree:=
 bnd (term ts) fun a ts=>bnd (cmp ts) fun op ts=>bnd (term ts) fun b ts=>.ok (.node 4 op 0 a.pos [a,b],ts)
def qqI (n:Tree)(ts:List Tok):PR Tree:=
 if isT wxG ts then
  bnd (wqR fact ts.tail) fun fs ts=>bnd (qvV wqi ts) fun _ ts=>.ok (n.withKids (n.kids++fs),ts)
 else bnd (qvV wqi ts) fun _ ts=>.ok (n,ts)
def typ (at_:Int)(ts:List Tok):PR Tree:=
 bnd (name ts) fun n ts=>bnd (sort ts) fun s ts=>
  if isT jqE ts then
   bnd (wqR field ts.tail) fun fs ts=>bnd (qvV kzp ts) fun _ ts=>qqI (.node 1 n.text 0 at_ (s::fs)) ts
  else qqI (.node 1 n.text 0 at_ [s]) ts
def mode (ts:List Tok):PR Tree:=
 if isT yzT ts then .ok (.node 8 (hd ts).text 0 (hd ts).pos [],ts.tail)
 else if isT zvR ts then bnd (name ts.tail) fun k ts'=>.ok (.node 8 (hd ts).text 0 (hd ts).pos [k],ts')
 else bnd (qvV wjQ ts) fun _ ts1=>
  if isT jqD ts1 then bnd (name ts1.tail) fun k ts'=>.ok (.node 8 qwl 0 (hd ts).pos [k],ts')
  else bnd (name ts1) fun k ts'=>.ok (.node 8 (hd ts).text 0 (hd ts).pos [k],ts')
def zww (ts:List Tok):PR Tree:=
 bnd (name ts) fun n ts=>bnd (qvV yzY ts) fun _ ts=>bnd (mode ts) fun m ts=>.ok ((n.withKind 7).withKids [m],ts)
def qwC (n:Tree)(ts:List Tok):PR Tree:=bnd (qvV wqi ts) fun _ ts=>.ok (n,ts)
def zxh (k:Int)(ts:List Tok):PR Tree:=
 bnd (name ts) fun n ts=>bnd (qvV ykw ts) fun _ ts=>bnd (qkT 1 ts) fun v ts=>bnd (qvV ykv ts) fun _ ts=>.ok ((n.withKind k).withNum v,ts)
def ww3 (ts:List Tok):PR Tree:=
 if isT kzq ts then bnd (qkT 1 ts.tail) fun v ts'=>.ok (.node 23 [] v (hd ts).pos [],ts')
 else if isT wxI ts then bnd (name ts.tail) fun k ts'=>.ok (.node 24 k.text 0 (hd ts).pos [],ts')
 else if isT wjQ ts then
  if isT jqD ts.tail then bnd (name ts.tail.tail) fun k ts'=>.ok (.node 27 k.text 0 (hd ts).pos [],ts')
  else bnd (name ts.tail) fun k ts'=>.ok (.node 26 k.text 0 (hd ts).pos [],ts')
 else if(hd ts).kind≠1 then term ts
 else bnd (name ts) fun n ts=>
  if isT wqk ts then bnd (args ts) fun xs ts=>.ok ((n.withKind 28).withKids xs,ts)
  else if isT ykw ts then bnd (term ts.tail) fun k ts=>bnd (qvV ykv ts) fun _ ts=>.ok ((n.withKind 25).withKids [k],ts)
  else if isT yzS ts&&(hd ts.tail).kind==1 then bnd (name ts.tail) fun k ts=>.ok (.node 21 [] 0 n.pos [n,k],ts)
  else if isT zvS ts&&(hd ts.tail).kind==1 then bnd (name ts.tail) fun k ts=>.ok (.node 22 [] 0 n.pos [n,k],ts)
  else more n ts
def zvg (n:Tree)(ts:List Tok):PR Tree:=
 if isT wqk ts then bnd (args ts) fun xs ts=>.ok (.node 20 [] 0 n.pos [(n.withKind 28).withKids xs],ts)
 else if isT ykw ts then
  bnd (term ts.tail) fun a ts=>bnd (qvV ykv ts) fun _ ts=>bnd (qvV sEq ts) fun _ ts=>bnd (term ts) fun b ts=>.ok ((n.withKind 11).withKids [a,b],ts)
 else bnd (qvV sEq ts) fun _ ts=>bnd (ww3 ts) fun x ts=>.ok ((n.withKind 10).withKids [x],ts)
def zz7 (block:List Tok->PR Tree)(k at_:Int)(ts:List Tok):PR Tree:=
 bnd (fact ts) fun n ts=>bnd (block ts) fun b ts=>.ok (.node k n.text n.num at_ (n.kids++[b]),ts)
def wwb (block:List Tok->PR Tree)(ts:List Tok):PR Tree:=
 if isT yzU ts then bnd (name ts.tail) fun n ts'=>qwC ((n.withKind 12).withPos (hd ts).pos) ts'
 else if isT wql ts then bnd (zxh 13 ts.tail) fun n ts'=>qwC (n.withPos (hd ts).pos) ts'
 else if isT zvP ts then bnd (zxh 14 ts.tail) fun n ts'=>qwC (n.withPos (hd ts).pos) ts'
 else if isT sIf ts then
  bnd (zz7 block 15 (hd ts).pos ts.tail) fun n ts'=>
   if isT yzW ts' then bnd (block ts'.tail) fun b ts'=>.ok (n.withKids (n.kids++[b]),ts')
   else .ok (n.withKids (n.kids++[.node 9 [] 0 (hd ts).pos []]),ts')
 else if isT wxF ts then zz7 block 16 (hd ts).pos ts.tail
 else if isT zvQ ts then
  if isT wqi ts.tail then qwC (.node 17 [] 0 (hd ts).pos []) ts.tail
  else bnd (term ts.tail) fun x ts'=>qwC (.node 17 [] 0 (hd ts).pos [x]) ts'
 else if isT wxJ ts then qwC (.node 18 [] 0 (hd ts).pos []) ts.tail
 else if isT yzV ts then
  bnd (name ts.tail) fun n ts'=>bnd (args ts') fun xs ts'=>qwC (.node 19 n.text 0 (hd ts).pos xs) ts'
 else bnd (name ts) fun n ts=>bnd (zvg n ts) qwC
def zqO (one:List Tok->PR Tree)(ts:List Tok):PR (List Tree):=
 if isT kzp ts then .ok ([],ts.tail)
 else
  match one ts with
  |.error e=>.error e
  |.ok (x,ts')=>
    if ts'.length<ts.length then
     bnd (zqO one ts') fun xs ts''=>.ok (x::xs,ts'')
    else .error (0,0)
termination_by ts.length
def block:Nat->List Tok->PR Tree
 |0,ts=>if isT jqE ts then flt 21 ts else flt 20 ts
 |n+1,ts=>bnd (qvV jqE ts) fun _ ts1=>bnd (zqO (wwb (block n)) ts1) fun xs ts'=>.ok (.node 9 [] 0 (hd ts).pos xs,ts')
def qwa (ts:List Tok):PR (List Tree):=
 bnd (qvV wqk ts) fun _ ts=>
  if isT wqj ts then .ok ([],ts.tail)
  else bnd (wqR zww ts) fun xs ts=>bnd (qvV wqj ts) fun _ ts=>.ok (xs,ts)
def zvj (ts:List Tok):PR Tree:=
 if isT wxH ts then(if isT wjQ ts.tail then flt 20 ts.tail else mode ts.tail)
 else .ok (.node 8 [] 0 (hd ts).pos [],ts)
def fn (at_:Int)(ts:List Tok):PR Tree:=
 bnd (name ts) fun n ts=>bnd (qwa ts) fun ps ts=>bnd (zvj ts) fun r ts=>bnd (block 8 ts) fun b ts=>
  .ok (.node 6 n.text 0 at_ (ps++[r,b]),ts)
def zko (ts:List Tok):PR Tree:=
 if isT sFn ts then fn (hd ts).pos ts.tail
 else bnd (qvV yzR ts) fun _ ts'=>typ (hd ts).pos ts'
def qw1 (ts:List Tok):PR (List Tree):=
 if(hd ts).kind=0 then .ok ([],ts)
 else
  match zko ts with
  |.error e=>.error e
  |.ok (x,ts')=>
    if ts'.length<ts.length then
     bnd (qw1 ts') fun xs ts''=>.ok (x::xs,ts'')
    else .error (0,0)
termination_by ts.length
mutual
def size:Tree->Nat
 |.node _ _ _ _ ks=>1+qj4 ks
def qj4:List Tree->Nat
 |[]=>0
 |k::ks=>size k+qj4 ks
end
def qjP (ts:List Tok):Except (Int×Int) Tree:=
 match qw1 ts with
 |.error e=>.error e
 |.ok (ks,_)=>if 4096<size (.node 0 [] 0 0 ks)then .error (0,22)else .ok (.node 0 [] 0 0 ks)
end Lg
namespace Lx
open Go
abbrev Bs:=List UInt8
inductive D where
 |int (k:IntKind) (n:Int)
 |bool (b:Bool)
 |st (b:Bs)
 |imm (x:Value)
 |ag (xs:List D)
 |sl (sz:Nat) (xs:List D) (full:Bool)
 |ifc (t:TypeId) (x:D)
inductive LV where
 |d (x:D)
 |bp (k off:Nat)
 |os (r sz n:Nat)
 |ap (r sz n i o:Nat)
 |ep (x:D) (off:Nat)
 |ag (xs:List LV)
 |fn (f:Fn) (first captured:List LV)
 |tup (xs:List LV)
 |mp (k:Nat)
 |un
mutual
inductive Rp (Φ:Nat->Nat->Option Value):D->Value->Prop
 |int (k:IntKind) (n:Int):Rp Φ (.int k n) (.int k n)
 |bool (b:Bool):Rp Φ (.bool b) (.bool b)
 |st (b:Bs):Rp Φ (.st b) (.string ⟨b.toArray⟩)
 |imm (x:Value):Rp Φ (.imm x) x
 |ag {ds:List D} {vs:List Value} (h:Rps Φ ds vs):Rp Φ (.ag ds) (.agg vs.toArray)
 |ifc (t:TypeId) {d:D} {v:Value} (h:Rp Φ d v):Rp Φ (.ifc t d) (.iface t v)
 |sl0 (sz:Nat) (f:Bool) (a:Option Addr) (cap:Nat) (h:f=true->cap=0) (ha:a=none->cap=0):Rp Φ (.sl sz [] f) (.slice a 0 cap)
 |sl {sz:Nat} {xs:List D} {f:Bool} {us:List Value} (b off cap:Nat) (hn:xs≠[]) (h:Rps Φ xs us)
     (hs:∀(i:Nat) (u:Value),us[i]?=some u->u.cells.size=sz)
     (hc:∀(i:Nat) (u:Value),us[i]?=some u->∀(j:Nat) (c:Value),u.cells[j]?=some c->Φ b (off+i*sz+j)=some c)
     (hcap:xs.length<=cap) (hf:f=true->cap=xs.length):Rp Φ (.sl sz xs f) (.slice (some ⟨b,off,none⟩) xs.length cap)
inductive Rps (Φ:Nat->Nat->Option Value):List D->List Value->Prop
 |nil:Rps Φ [] []
 |cons {d:D} {v:Value} {ds:List D} {vs:List Value} (h:Rp Φ d v) (t:Rps Φ ds vs):Rps Φ (d::ds) (v::vs)
end
mutual
inductive D.le:D->D->Prop
 |rfl (x:D):D.le x x
 |nil (sz:Nat) (f:Bool):D.le (.imm (.slice none 0 0)) (.sl sz [] f)
 |sl {sz:Nat} {xs ys:List D} {f f':Bool} (h:D.les xs ys) (hf:f'=true->f=true):D.le (.sl sz xs f) (.sl sz ys f')
 |ag {xs ys:List D} (h:D.les xs ys):D.le (.ag xs) (.ag ys)
inductive D.les:List D->List D->Prop
 |nil:D.les [] []
 |cons {x y:D} {xs ys:List D} (h:D.le x y) (t:D.les xs ys):D.les (x::xs) (y::ys)
end
theorem D.les.refl:∀xs:List D,D.les xs xs
 |[]=>.nil
 |x::xs=>.cons (.rfl x) (D.les.refl xs)
theorem D.les.length:∀{xs ys:List D},D.les xs ys->xs.length=ys.length
 |[],_,h=>by cases h;rfl
 |x::xs,_,h=>by cases h with|cons _ t=>{simp[t.length]}
mutual
theorem Rp.le {Φ:Nat->Nat->Option Value}{x y:D}{v:Value}(h:Rp Φ x v)(hl:D.le x y):Rp Φ y v:=by
 cases hl with|rfl=>{exact h}|nil sz f=>{cases h;exact .sl0 sz f none 0 (fun _=>by rfl) (fun _=>by rfl)}| @sl sz xs ys f f' hh hf=>{cases h with|sl0 _ _ a cap h ha=>{cases hh;exact .sl0 sz f' a cap (fun e=>h (hf e)) ha}|sl b off cap hn h hs hc hcap hf'=>{have hln:=hh.length;rw[hln];refine .sl b off cap ?_ (h.les hh) hs hc (hln▸hcap) (fun e=>hln▸hf' (hf e));intro e;subst e;cases xs with|nil=>{exact hn (by rfl)}|cons=>{cases hln}}}|ag hh=>{cases h with|ag h=>{exact .ag (h.les hh)}}
theorem Rps.les {Φ:Nat->Nat->Option Value}{xs ys:List D}{vs:List Value}(h:Rps Φ xs vs)(hl:D.les xs ys):Rps Φ ys vs:=by
 cases hl with|nil=>{exact h}|cons h1 t1=>{cases h with|cons a t=>{exact .cons (a.le h1) (t.les t1)}}
end
structure Gh where
 β:Nat->Nat
 Φ:Nat->Nat->Option Value
 α:Nat->Nat×Nat
 len:Nat->Option Nat
mutual
inductive LRp (g:Gh):LV->Value->Prop
 |d {x:D} {v:Value} (h:Rp g.Φ x v):LRp g (.d x) v
 |bp (k off:Nat):LRp g (.bp k off) (.pointer (some ⟨g.β k,off,none⟩))
 |os {r sz n:Nat} {v:Value} (h1:v.oneCell'=true) (h:∀m,g.len r=some m->n<=m/\(n=m->v=.slice (some ⟨(g.α r).1,0,none⟩) n (g.α r).2)):LRp g (.os r sz n) v
 |ap {r sz n i o:Nat} {v:Value} (h1:v.oneCell'=true) (h:∀m,g.len r=some m->n<=m/\(n=m->v=.pointer (some ⟨(g.α r).1,i*sz+o,none⟩))):LRp g (.ap r sz n i o) v
 |ep {x:D} {u:Value} (b o off:Nat) (h:Rp g.Φ x u) (hc:∀(j:Nat) (c:Value),u.cells[j]?=some c->g.Φ b (o+j)=some c):LRp g (.ep x off) (.pointer (some ⟨b,o+off,none⟩))
 |ag {xs:List LV} {vs:List Value} (h:LRps g xs vs):LRp g (.ag xs) (.agg vs.toArray)
 |fn (f:Fn) {xs ys:List LV} {us vs:List Value} (h:LRps g xs us) (h':LRps g ys vs):LRp g (.fn f xs ys) (.func f us.toArray vs.toArray)
 |tup {xs:List LV} {vs:List Value} (h:LRps g xs vs):LRp g (.tup xs) (.tuple vs.toArray)
 |mp (k:Nat):LRp g (.mp k) (.map (some (g.β k)))
 |un (v:Value):LRp g .un v
inductive LRps (g:Gh):List LV->List Value->Prop
 |nil:LRps g [] []
 |cons {x:LV} {v:Value} {xs:List LV} {vs:List Value} (h:LRp g x v) (t:LRps g xs vs):LRps g (x::xs) (v::vs)
end
theorem Rps.length {Φ:Nat->Nat->Option Value}{ds:List D}{vs:List Value}(h:Rps Φ ds vs):ds.length=vs.length:=by
 induction ds generalizing vs with|nil=>{cases h;rfl}|cons d ds ih=>{cases h with|cons _ t=>{simp[ih t]}}
theorem Rps.get {Φ:Nat->Nat->Option Value}{ds:List D}{vs:List Value}(h:Rps Φ ds vs){i:Nat}{d:D}(hd:ds[i]?=some d):∃v,vs[i]?=some v/\Rp Φ d v:=by
 induction ds generalizing vs i with|nil=>{simp at hd}|cons x ds ih=>{cases h with|cons hx t=>{cases i with|zero=>{simp at hd;subst hd;exact⟨_,rfl,hx⟩}|succ i=>{simp at hd;simpa using ih t hd}}}
theorem Rps.get' {Φ:Nat->Nat->Option Value}{ds:List D}{vs:List Value}(h:Rps Φ ds vs){i:Nat}{v:Value}(hv:vs[i]?=some v):∃d,ds[i]?=some d/\Rp Φ d v:=by
 induction ds generalizing vs i with|nil=>{cases h;simp at hv}|cons x ds ih=>{cases h with|cons hx t=>{cases i with|zero=>{simp at hv;subst hv;exact⟨_,rfl,hx⟩}|succ i=>{simp at hv;simpa using ih t hv}}}
theorem Rps.append {Φ:Nat->Nat->Option Value}{ds es:List D}{vs us:List Value}(h:Rps Φ ds vs)(k:Rps Φ es us):Rps Φ (ds++es) (vs++us):=by
 induction ds generalizing vs with|nil=>{cases h;exact k}|cons d ds ih=>{cases h with|cons a t=>{exact .cons a (ih t)}}
theorem Rps.split {Φ:Nat->Nat->Option Value}{ds es:List D}{vs:List Value}(h:Rps Φ (ds++es) vs):Rps Φ ds (vs.take ds.length)/\Rps Φ es (vs.drop ds.length):=by
 induction ds generalizing vs with|nil=>{exact⟨by simpa using .nil,by simpa using h⟩}|cons d ds ih=>{cases h with|cons a t=>{exact⟨.cons a (ih t).1,by simpa using(ih t).2⟩}}
theorem Rps.take {Φ:Nat->Nat->Option Value}{ds:List D}{vs:List Value}(h:Rps Φ ds vs)(n:Nat):Rps Φ (ds.take n) (vs.take n):=by
 induction ds generalizing vs n with|nil=>{cases h;simpa using .nil}|cons d ds ih=>{cases h with|cons a t=>{cases n with|zero=>{simpa using .nil}|succ n=>{exact .cons a (ih t n)}}}
theorem Rps.drop {Φ:Nat->Nat->Option Value}{ds:List D}{vs:List Value}(h:Rps Φ ds vs)(n:Nat):Rps Φ (ds.drop n) (vs.drop n):=by
 induction ds generalizing vs n with|nil=>{cases h;simpa using .nil}|cons d ds ih=>{cases h with|cons a t=>{cases n with|zero=>{exact .cons a t}|succ n=>{simpa using ih t n}}}
def Phi.le (Φ Φ':Nat->Nat->Option Value):Prop:=∀b o v,Φ b o=some v->Φ' b o=some v
theorem Phi.le_refl (Φ:Nat->Nat->Option Value):Phi.le Φ Φ:=fun _ _ _ h=>h
theorem Phi.le_trans {Φ Φ' Φ'':Nat->Nat->Option Value}(h:Phi.le Φ Φ')(k:Phi.le Φ' Φ''):Phi.le Φ Φ'':=fun b o v e=>k b o v (h b o v e)
mutual
theorem Rp.mono {Φ Φ':Nat->Nat->Option Value}(hl:Phi.le Φ Φ'){d:D}{v:Value}(h:Rp Φ d v):Rp Φ' d v:=by
 cases h with|int k n=>{exact .int k n}|bool b=>{exact .bool b}|st b=>{exact .st b}|imm=>{exact .imm _}|ag h=>{exact .ag (h.mono hl)}|ifc t h=>{exact .ifc t (h.mono hl)}|sl0 sz f a cap h ha=>{exact .sl0 sz f a cap h ha}|sl b off cap hn h hs hc hcap hf=>{exact .sl b off cap hn (h.mono hl) hs (fun i u hu j c hj=>hl _ _ _ (hc i u hu j c hj)) hcap hf}
theorem Rps.mono {Φ Φ':Nat->Nat->Option Value}(hl:Phi.le Φ Φ'){ds:List D}{vs:List Value}(h:Rps Φ ds vs):Rps Φ' ds vs:=by
 cases h with|nil=>{exact .nil}|cons h t=>{exact .cons (h.mono hl) (t.mono hl)}
end
theorem LRps.length {g:Gh}{xs:List LV}{vs:List Value}(h:LRps g xs vs):xs.length=vs.length:=by
 induction xs generalizing vs with|nil=>{cases h;rfl}|cons d ds ih=>{cases h with|cons _ t=>{simp[ih t]}}
theorem LRps.get {g:Gh}{xs:List LV}{vs:List Value}(h:LRps g xs vs){i:Nat}{x:LV}(hd:xs[i]?=some x):∃v,vs[i]?=some v/\LRp g x v:=by
 induction xs generalizing vs i with|nil=>{simp at hd}|cons y ds ih=>{cases h with|cons hx t=>{cases i with|zero=>{simp at hd;subst hd;exact⟨_,rfl,hx⟩}|succ i=>{simp at hd;simpa using ih t hd}}}
theorem LRps.append {g:Gh}{xs ys:List LV}{vs us:List Value}(h:LRps g xs vs)(k:LRps g ys us):LRps g (xs++ys) (vs++us):=by
 induction xs generalizing vs with|nil=>{cases h;exact k}|cons d ds ih=>{cases h with|cons a t=>{exact .cons a (ih t)}}
theorem LRps.take {g:Gh}{ds:List LV}{vs:List Value}(h:LRps g ds vs)(n:Nat):LRps g (ds.take n) (vs.take n):=by
 induction ds generalizing vs n with|nil=>{cases h;simpa using .nil}|cons d ds ih=>{cases h with|cons a t=>{cases n with|zero=>{simpa using .nil}|succ n=>{exact .cons a (ih t n)}}}
theorem LRps.drop {g:Gh}{ds:List LV}{vs:List Value}(h:LRps g ds vs)(n:Nat):LRps g (ds.drop n) (vs.drop n):=by
 induction ds generalizing vs n with|nil=>{cases h;simpa using .nil}|cons d ds ih=>{cases h with|cons a t=>{cases n with|zero=>{exact .cons a t}|succ n=>{simpa using ih t n}}}
theorem LRps.set {g:Gh}{ds:List LV}{vs:List Value}(h:LRps g ds vs)(n:Nat){x:LV}{v:Value}(hx:LRp g x v):LRps g (ds.set n x) (vs.set n v):=by
 induction ds generalizing vs n with|nil=>{cases h;simpa using .nil}|cons d ds ih=>{cases h with|cons a t=>{cases n with|zero=>{exact .cons hx t}|succ n=>{exact .cons a (ih t n)}}}
theorem LRps.ofD {g:Gh}{ds:List D}{vs:List Value}(h:Rps g.Φ ds vs):LRps g (ds.map .d) vs:=by
 induction ds generalizing vs with|nil=>{cases h;exact .nil}|cons d ds ih=>{cases h with|cons a t=>{exact .cons (.d a) (ih t)}}
theorem LRps.toD {g:Gh}{ds:List D}{vs:List Value}(h:LRps g (ds.map .d) vs):Rps g.Φ ds vs:=by
 induction ds generalizing vs with|nil=>{cases h;exact .nil}|cons d ds ih=>{cases h with|cons a t=>{cases a with|d a=>{exact .cons a (ih t)}}}
structure Gh.le (g g':Gh):Prop where
 β:g'.β=g.β
 Φ:Phi.le g.Φ g'.Φ
 arr:∀r m',g'.len r=some m'->∃m,g.len r=some m/\m<=m'/\(m=m'->g'.α r=g.α r)
mutual
theorem LRp.mono {g g':Gh}(hl:Gh.le g g'){x:LV}{v:Value}(h:LRp g x v):LRp g' x v:=by
 cases h with|d h=>{exact .d (h.mono hl.Φ)}|bp k off=>{rw[<-hl.β];exact .bp k off}|os h1 h=>{refine .os h1 fun m' hm'=>?_;obtain⟨m,hm,hle,ha⟩:=hl.arr _ _ hm';obtain⟨h1,h2⟩:=h m hm;exact⟨Nat.le_trans h1 hle,fun e=>by have e':m=m':=Nat.le_antisymm hle (e▸h1);rw[ha e'];exact h2 (e.trans e'.symm)⟩}|ap h1 h=>{refine .ap h1 fun m' hm'=>?_;obtain⟨m,hm,hle,ha⟩:=hl.arr _ _ hm';obtain⟨h1,h2⟩:=h m hm;exact⟨Nat.le_trans h1 hle,fun e=>by have e':m=m':=Nat.le_antisymm hle (e▸h1);rw[ha e'];exact h2 (e.trans e'.symm)⟩}|ep b o off h hc=>{exact .ep b o off (h.mono hl.Φ) (fun j c hj=>hl.Φ _ _ _ (hc j c hj))}|ag h=>{exact .ag (h.mono hl)}|fn f h h'=>{exact .fn f (h.mono hl) (h'.mono hl)}|tup h=>{exact .tup (h.mono hl)}|mp k=>{rw[<-hl.β];exact .mp k}|un=>{exact .un _}
theorem LRps.mono {g g':Gh}(hl:Gh.le g g'){xs:List LV}{vs:List Value}(h:LRps g xs vs):LRps g' xs vs:=by
 cases h with|nil=>{exact .nil}|cons h t=>{exact .cons (h.mono hl) (t.mono hl)}
end
inductive Dk where
 |st (fields:List (Nat×Nat))
 |sli (e:Nat)
 |arr (n e:Nat)
 |str
 |int (k:IntKind)
 |boo
 |ifc
 |ptr (e:Nat)
 |map (k v:Nat)
 |oth
def dk:TypeDesc->Dk
 |.struct fs=>.st (fs.toList.map fun f=>(f.offset,f.type))
 |.slice e=>.sli e
 |.array n e=>.arr n e
 |.string=>.str
 |.int k=>.int k
 |.bool=>.boo
 |.interface _=>.ifc
 |.pointer e=>.ptr e
 |.map k v=>.map k v
 |_=>.oth
theorem wv4 {d:TypeDesc}{l:List (Nat×Nat)}(h:dk d=.st l):∃fs,d=.struct fs/\l=fs.toList.map fun f=>(f.offset,f.type):=by
 (cases d<;>simp only[dk]at h<;>first|(cases h;done)|skip);{simp only[Dk.st.injEq]at h;exact⟨_,rfl,h.symm⟩}
theorem qjh {d:TypeDesc}{e:Nat}(h:dk d=.sli e):d=.slice e:=by
 (cases d<;>simp only[dk]at h<;>first|(cases h;done)|skip);simp only[Dk.sli.injEq]at h;rw[h]
theorem wzm {d:TypeDesc}{n e:Nat}(h:dk d=.arr n e):d=.array n e:=by
 (cases d<;>simp only[dk]at h<;>first|(cases h;done)|skip);simp only[Dk.arr.injEq]at h;rw[h.1,h.2]
theorem zz1 {d:TypeDesc}(h:dk d=.str):d=.string:=by
 cases d<;>simp only[dk]at h<;>first|(cases h;done)|rfl
theorem zk4 {d:TypeDesc}{k:IntKind}(h:dk d=.int k):d=.int k:=by
 (cases d<;>simp only[dk]at h<;>first|(cases h;done)|skip);simp only[Dk.int.injEq]at h;rw[h]
theorem wjo {d:TypeDesc}(h:dk d=.boo):d=.bool:=by
 cases d<;>simp only[dk]at h<;>first|(cases h;done)|rfl
structure TI where
 desc:Dk
 size:Nat
 bytes:Nat
 zero:Value
 cmp:Bool
def lkp {α:Type}(k:Nat):List (Nat×α)->Option α
 |[]=>none
 |(j,x)::l=>if k=j then some x else lkp k l
theorem qqi {α:Type}{k:Nat}{x:α}:∀{l:List (Nat×α)},lkp k l=some x->(k,x)∈l
 |[],h=>by simp[lkp]at h
 |(j,y)::l,h=>by
   simp only[lkp]at h;split at h;{simp only[Option.some.injEq]at h;subst h;subst_vars;simp};exact List.mem_cons_of_mem _ (qqi h)
def zxX (P:Program)(t:TypeId):Dk->Bool
 |.st _=> !P.stoodInHeld t&& !P.eqGuardType P.depth t&&(P.fieldsOf t).toList.all fun f=>f.name != "_"
 |_=>true
def jvp (P:Program)(t:TypeId)(i:TI):Prop:=
 ∃info d,P.info? t=some info/\info.size=i.size/\info.bytes=i.bytes/\info.zero=some i.zero/\P.underlying t=some d/\dk d=i.desc/\i.zero.cells.size=i.size/\(!i.cmp||(info.comparable&&zxX P t i.desc))=true
def TOK (P:Program)(tl:List (Nat×TI)):Prop:=∀t i,(t,i)∈tl->jvp P t i
def TI.agg (i:TI):Bool:=match i.desc with|.st _|.arr _ _=>true|_=>false
structure Box where
 cells:List LV
 ty:TypeId
abbrev Bx:=Nat->Option Box
abbrev Ar:=Nat->Option (Nat×TypeId×List D)
structure S where
 n:Nat
 tm:Nat->Option LV
 bx:Bx
 ar:Ar
def nix {α:Type}:Nat->Option α:=fun _=>none
def put {α:Type}(k:Nat)(x:α)(f:Nat->Option α):Nat->Option α:=fun j=>if j=k then some x else f j
def del {α:Type}(k:Nat)(f:Nat->Option α):Nat->Option α:=fun j=>if j=k then none else f j
def mapf {α β:Type}(h:α->β)(f:Nat->Option α):Nat->Option β:=fun j=>(f j).map h
mutual
def fgt (k:Nat):LV->LV
 |.bp j off=>if j=k then .un else .bp j off
 |.os j sz n=>if j=k then .un else .os j sz n
 |.ap j sz n i o=>if j=k then .un else .ap j sz n i o
 |.ag xs=>.ag (fgts k xs)
 |.fn f xs ys=>.fn f (fgts k xs) (fgts k ys)
 |.tup xs=>.tup (fgts k xs)
 |.mp j=>if j=k then .un else .mp j
 |.d x=>.d x
 |.ep x off=>.ep x off
 |.un=>.un
def fgts (k:Nat):List LV->List LV
 |[]=>[]
 |x::xs=>fgt k x::fgts k xs
end
mutual
def fz (r n:Nat)(x:D):LV->LV
 |.os j sz m=>if j=r then(if m=n then .d x else .un)else .os j sz m
 |.ag xs=>.ag (fzs r n x xs)
 |.fn f xs ys=>.fn f (fzs r n x xs) (fzs r n x ys)
 |.tup xs=>.tup (fzs r n x xs)
 |.bp j off=>.bp j off
 |.mp j=>.mp j
 |.ap j sz m i o=>.ap j sz m i o
 |.d y=>.d y
 |.ep y off=>.ep y off
 |.un=>.un
def fzs (r n:Nat)(x:D):List LV->List LV
 |[]=>[]
 |y::ys=>fz r n x y::fzs r n x ys
end
def Box.fz (r n:Nat)(x:D)(b:Box):Box:=⟨fzs r n x b.cells,b.ty⟩
mutual
theorem LRp.fz {g g':Gh}(hl:Gh.le g g'){r n:Nat}{x:D}(hx:∀sz v,LRp g (.os r sz n) v->Rp g'.Φ x v){y:LV}{v:Value}(h:LRp g y v):LRp g' (Lx.fz r n x y) v:=by
 cases h with|d h=>{simp only[Lx.fz];exact .d (h.mono hl.Φ)}|bp j off=>{simp only[Lx.fz];rw[<-hl.β];exact .bp j off}|mp j=>{simp only[Lx.fz];rw[<-hl.β];exact .mp j}| @os j sz m v h1 h=>{simp only[Lx.fz];split;{rename_i e;subst e;split;{rename_i e;subst e;exact .d (hx sz v (.os h1 h))};exact .un _};exact LRp.mono hl (.os h1 h)}|ap h1 h=>{simp only[Lx.fz];exact LRp.mono hl (.ap h1 h)}|ep b o off h hc=>{simp only[Lx.fz];exact LRp.mono hl (.ep b o off h hc)}|ag h=>{simp only[Lx.fz];exact .ag (h.fzs hl hx)}|fn f h h'=>{simp only[Lx.fz];exact .fn f (h.fzs hl hx) (h'.fzs hl hx)}|tup h=>{simp only[Lx.fz];exact .tup (h.fzs hl hx)}|un=>{simp only[Lx.fz];exact .un _}
theorem LRps.fzs {g g':Gh}(hl:Gh.le g g'){r n:Nat}{x:D}(hx:∀sz v,LRp g (.os r sz n) v->Rp g'.Φ x v){ys:List LV}{vs:List Value}(h:LRps g ys vs):LRps g' (Lx.fzs r n x ys) vs:=by
 cases h with|nil=>{simp only[Lx.fzs];exact .nil}|cons h t=>{simp only[Lx.fzs];exact .cons (h.fz hl hx) (t.fzs hl hx)}
end
theorem qq7 {α β:Type}{h:α->β}{f:Nat->Option α}{k:Nat}{y:β}(e:mapf h f k=some y):∃x,f k=some x/\y=h x:=by
 unfold mapf at e;obtain⟨x,h1,h2⟩:=Option.map_eq_some_iff.1 e;exact⟨x,h1,h2.symm⟩
def Box.fgt (k:Nat)(b:Box):Box:=⟨fgts k b.cells,b.ty⟩
def S.fg (k:Nat)(s:S):S:={s with tm:=mapf (fgt k) s.tm,bx:=mapf (Box.fgt k) s.bx}
structure Gh.but (k:Nat)(g g':Gh):Prop where
 β:∀j,j≠k->g'.β j=g.β j
 α:∀j,j≠k->g'.α j=g.α j
 len:∀j,j≠k->g'.len j=g.len j
 Φ:Phi.le g.Φ g'.Φ
mutual
theorem LRp.fgt {g g':Gh}{k:Nat}(hl:Gh.but k g g'){x:LV}{v:Value}(h:LRp g x v):LRp g' (Lx.fgt k x) v:=by
 cases h with|d h=>{simp only[Lx.fgt];exact .d (h.mono hl.Φ)}|bp j off=>{simp only[Lx.fgt];split;exact .un _;{rename_i e;rw[<-hl.β j e];exact .bp j off}}| @os j sz n v h1 h=>{simp only[Lx.fgt];split;exact .un _;{rename_i e;exact .os h1 fun m hm=>by{rw[hl.α j e];exact h m (by rw[<-hl.len j e];exact hm)}}}| @ap j sz n i o v h1 h=>{simp only[Lx.fgt];split;exact .un _;{rename_i e;exact .ap h1 fun m hm=>by{rw[hl.α j e];exact h m (by rw[<-hl.len j e];exact hm)}}}|ep b o off h hc=>{simp only[Lx.fgt];exact .ep b o off (h.mono hl.Φ) (fun j c hj=>hl.Φ _ _ _ (hc j c hj))}|ag h=>{simp only[Lx.fgt];exact .ag (h.fgts hl)}|fn f h h'=>{simp only[Lx.fgt];exact .fn f (h.fgts hl) (h'.fgts hl)}|tup h=>{simp only[Lx.fgt];exact .tup (h.fgts hl)}|mp j=>{simp only[Lx.fgt];split;exact .un _;{rename_i e;rw[<-hl.β j e];exact .mp j}}|un=>{simp only[Lx.fgt];exact .un _}
theorem LRps.fgts {g g':Gh}{k:Nat}(hl:Gh.but k g g'){xs:List LV}{vs:List Value}(h:LRps g xs vs):LRps g' (Lx.fgts k xs) vs:=by
 cases h with|nil=>{simp only[Lx.fgts];exact .nil}|cons h t=>{simp only[Lx.fgts];exact .cons (h.fgt hl) (t.fgts hl)}
end
abbrev qxu:Nat:=1000000
def qxp:Nat->List Value->List MapEntry
 |i,k::v::r=>{key:=k,val:=v,born:=i}::qxp (i+1) r
 |_,_=>[]
def zw8:Value->Nat
 |.int _ n=>n.toNat
 |_=>0
def objOf (ty:TypeId)(vs:List Value):Obj:=
 if ty<qxu then .cells vs.toArray ty (0,0)
 else if ty=qxu then .map (qxp 0 vs).toArray (vs.length /2)
 else match vs with
 |.map m::seen=>.mapIter m (ty-(qxu+1)) (seen.map zw8).toArray (ty-(qxu+1))
 |_=>.cells #[] 0 (0,0)
theorem qzU {ty:TypeId}(h:ty<qxu)(vs:List Value):objOf ty vs=.cells vs.toArray ty (0,0):=if_pos h
def wjh:Nat:=1
def tyo (t:Nat):Nat:=if t<1000000 then t else t-1000000
def lnt (t:Nat):Nat:=if t<1000000 then t+1000000 else t
theorem yzu {t:Nat}(h:t<1000000):tyo t=t:=if_pos h
theorem qzq (t:Nat):tyo (lnt t)=tyo t:=by
 unfold lnt;split;{rename_i h;unfold tyo;rw[if_neg (by omega),if_pos h];exact Nat.add_sub_cancel ..};rfl
theorem yqM (t:Nat):1000000<=lnt t:=by unfold lnt;split<;>omega
structure Wd (g:Gh)(bx:Bx)(ar:Ar)(w:World):Prop where
 box:∀k b,bx k=some b->∃vs,LRps g b.cells vs/\w.heap[g.β k]?=some (objOf b.ty vs)/\(∀v∈vs,v.oneCell'=true)
 arr:∀r sz ty xs,ar r=some (sz,ty,xs)->∃us c,Rps g.Φ xs us/\w.heap[(g.α r).1]?=some (.cells c (tyo ty) (0,0))/\c.size=(g.α r).2*sz/\xs.length<=(g.α r).2/\0<sz/\
  (g.α r).2<=maxLen/\(∀(i:Nat) (u:Value),us[i]?=some u->u.cells.size=sz/\(∀v∈u.cells,v.oneCell'=true)/\∀(j:Nat) (x:Value),u.cells[j]?=some x->c[i*sz+j]?=some x)
 len:∀r,g.len r=(ar r).map (·.2.2.length)
 fx:(∀b o v,g.Φ b o=some v->w.cell? ⟨b,o,none⟩=some v/\v.oneCell'=true)/\∃v:TypeId×Value,g.Φ wjh 0=some (.iface v.1 v.2)
 inj:∀k k' b b',bx k=some b->bx k'=some b'->g.β k=g.β k'->k=k'
 inja:∀r r' a a',ar r=some a->ar r'=some a'->(g.α r).1=(g.α r').1->r=r'
 injb:∀k r b a,bx k=some b->ar r=some a->g.β k≠(g.α r).1
 outb:∀k b o,bx k=some b->g.Φ (g.β k) o=none
 outa:∀r a o,ar r=some a->(1000000<=a.2.1->a.2.2.length*a.1<=o)->g.Φ (g.α r).1 o=none
theorem Wd.fix {g:Gh}{bx:Bx}{ar:Ar}{w:World}(h:Wd g bx ar w):∀b o v,g.Φ b o=some v->w.cell? ⟨b,o,none⟩=some v/\v.oneCell'=true:=h.fx.1
theorem Wd.glo {g:Gh}{bx:Bx}{ar:Ar}{w:World}(h:Wd g bx ar w):∃v:TypeId×Value,g.Φ wjh 0=some (.iface v.1 v.2):=h.fx.2
theorem qvZ {Φ Φ':Nat->Nat->Option Value}(h:∃v:TypeId×Value,Φ wjh 0=some (.iface v.1 v.2))(hl:Phi.le Φ Φ'):∃v:TypeId×Value,Φ' wjh 0=some (.iface v.1 v.2):=let⟨v,e⟩:=h;⟨v,hl _ _ _ e⟩
structure Fr (own:Nat->Prop)(w₀ w:World):Prop where
 os:w.os=w₀.os
 tape:w.tape=w₀.tape
 output:w.output=w₀.output
 size:w₀.heap.size<=w.heap.size
 block:∀b,b<w₀.heap.size->¬own b->w.heap[b]?=w₀.heap[b]?
theorem Fr.refl (own:Nat->Prop)(w:World):Fr own w w:=⟨rfl,rfl,rfl,Nat.le_refl _,fun _ _ _=>rfl⟩
structure Mine (own:Nat->Prop)(g₀:Gh)(w₀:World)(g:Gh)(bx:Bx)(ar:Ar):Prop where
 box:∀k b,bx k=some b->own (g.β k)\/w₀.heap.size<=g.β k
 arr:∀r a,ar r=some a->own (g.α r).1\/w₀.heap.size<=(g.α r).1
 le:Phi.le g₀.Φ g.Φ
 fix:∀b o v,g.Φ b o=some v->g₀.Φ b o=some v\/own b\/w₀.heap.size<=b
structure Bg where
 own:Nat->Prop
 g:Gh
 w:World
structure Rw (z:Bg)(g:Gh)(bx:Bx)(ar:Ar)(w:World):Prop where
 wd:Wd g bx ar w
 fr:Fr z.own z.w w
 mine:Mine z.own z.g z.w g bx ar
 keys:∀k,1000<=k->g.β k=z.g.β k
structure R (z:Bg)(g:Gh)(ds:List Deferred)(s:S)(a:Act)(w:World):Prop where
 size:a.tmps.size=s.n
 defers:a.defers=ds
 tm:∀k x,s.tm k=some x->k<s.n/\LRp g x (a.tmps.getD k undef)
 rw:Rw z g s.bx s.ar w
theorem R.wd {z:Bg}{g:Gh}{ds:List Deferred}{s:S}{a:Act}{w:World}(h:R z g ds s a w):Wd g s.bx s.ar w:=h.rw.wd
end Lx
