import Derived.Test.YtkknljojdgpdaaaGreatDoorB05
import Derived.OrdersHeld
import Derived.Still
set_option maxHeartbeats 32000000
set_option linter.unusedSimpArgs false
set_option linter.unusedVariables false
set_option linter.unusedSectionVars false
namespace Lx
open Go
def gsl (ops:Array Oper)(j:Nat):Option Nat:=(ops[j]?).bind (·.dst)
def opG (E:Env)(sp:FuncId->Option SpecX)(ops:Array Oper)(o:Oper)(s:S)(K:S->Prop)(Kp:D->S->Prop):Prop:=
 match o.guard with
 |none=>opK E sp o s K Kp
 |some (j,want)=>sm (gsl ops j) fun d=>sm (s.tm d) fun x=>match x with
  |.d (.bool b)=>(b=want->opK E sp o {s with tm:=put d (.d (.bool want)) s.tm} K Kp)/\
     (b= !want->dOk s o.dst/\K (S.pt {s with tm:=put d (.d (.bool !want)) s.tm} o.dst (.tup [])))
  |.tup []=>dOk s o.dst/\K (S.pt s o.dst (.tup []))
  |_=>False
def zxG (E:Env)(sp:FuncId->Option SpecX)(ops:Array Oper):List Oper->S->(S->Prop)->(D->S->Prop)->Prop
 |[],s,K,_=>K s
 |o::l,s,K,Kp=>opG E sp ops o s (fun s'=>zxG E sp ops l s' K Kp) Kp
inductive Ex where
 |normal
 |exit (id:Nat)
 |ret
structure Sub (s t:S):Prop where
 n:s.n=t.n
 tm:∀k x,t.tm k=some x->s.tm k=some x
 bx:∀k b,t.bx k=some b->s.bx k=some b
 ar:∀k a,t.ar k=some a->s.ar k=some a
def thenK (K:S->Prop)(Q:Ex->S->Prop):Ex->S->Prop
 |.normal,s=>K s
 |.exit i,s=>Q (.exit i) s
 |.ret,s=>Q .ret s
def blkK (id:Nat)(Q:Ex->S->Prop):Ex->S->Prop
 |.normal,s=>Q .normal s
 |.exit i,s=>if i=id then Q .normal s else Q (.exit i) s
 |.ret,s=>Q .ret s
def jkt (x:LV)(p q:Prop):Prop:=match x with
 |.d (.bool b)=>(b=true->p)/\(b=false->q)
 |_=>False
mutual
inductive Plan where
 |done
 |take (i:Nat) (p:Plan)
 |rd (i:Nat) (p:Plan)
 |all (ps:Plans)
inductive Plans where
 |nil
 |cons (i:Nat) (p:Plan) (ps:Plans)
end
abbrev wZ:Plan:=.done
abbrev wT (i:Nat)(p:Plan):Plan:=.take i p
abbrev wR (i:Nat)(p:Plan):Plan:=.rd i p
abbrev wA (i0:Nat)(p0:Plan):Plan:=.all (.cons i0 p0 .nil)
abbrev wB (i0:Nat)(p0:Plan)(i1:Nat)(p1:Plan):Plan:=.all (.cons i0 p0 (.cons i1 p1 .nil))
abbrev wC (i0:Nat)(p0:Plan)(i1:Nat)(p1:Plan)(i2:Nat)(p2:Plan):Plan:=.all (.cons i0 p0 (.cons i1 p1 (.cons i2 p2 .nil)))
abbrev wD (i0 i1:Nat)(p:Plan):Plan:=.all (.cons i0 (.all (.cons i1 (p) .nil)) .nil)
abbrev wE (i0 i1 i2:Nat)(p:Plan):Plan:=.all (.cons i0 (.all (.cons i1 (.all (.cons i2 (p) .nil)) .nil)) .nil)
abbrev wF (i0 i1 i2 i3:Nat)(p:Plan):Plan:=.all (.cons i0 (.all (.cons i1 (.all (.cons i2 (.all (.cons i3 (p) .nil)) .nil)) .nil)) .nil)
abbrev wG (i0 i1 i2 i3 i4:Nat)(p:Plan):Plan:=.all (.cons i0 (.all (.cons i1 (.all (.cons i2 (.all (.cons i3 (.all (.cons i4 (p) .nil)) .nil)) .nil)) .nil)) .nil)
abbrev wH (i0 i1 i2 i3 i4 i5:Nat)(p:Plan):Plan:=.all (.cons i0 (.all (.cons i1 (.all (.cons i2 (.all (.cons i3 (.all (.cons i4 (.all (.cons i5 (p) .nil)) .nil)) .nil)) .nil)) .nil)) .nil)
abbrev wI (i0 i1 i2 i3 i4 i5 i6:Nat)(p:Plan):Plan:=.all (.cons i0 (.all (.cons i1 (.all (.cons i2 (.all (.cons i3 (.all (.cons i4 (.all (.cons i5 (.all (.cons i6 (p) .nil)) .nil)) .nil)) .nil)) .nil)) .nil)) .nil)
abbrev wJ (i0 i1 i2 i3 i4 i5 i6 i7:Nat)(p:Plan):Plan:=.all (.cons i0 (.all (.cons i1 (.all (.cons i2 (.all (.cons i3 (.all (.cons i4 (.all (.cons i5 (.all (.cons i6 (.all (.cons i7 (p) .nil)) .nil)) .nil)) .nil)) .nil)) .nil)) .nil)) .nil)
abbrev wka:Plan:=wT 10 (wB 8 (wB 9 (wA 11 wZ) 11 (wA 9 wZ)) 11 (wD 8 9 wZ))
abbrev wkb:Plan:=wT 0 (wT 2 (wT 3 (wC 1 (wC 4 (wB 5 (wD 6 7 wka) 6 (wD 5 7 wka)) 5 (wB 4 (wD 6 7 wka) 6 (wD 4 7 wka)) 6 (wB 4 (wD 5 7 wka) 5 (wD 4 7 wka))) 4 (wB 1 (wB 5 (wD 6 7 wka) 6 (wD 5 7 wka)) 6 (wE 1 5 7 wka)) 6 (wB 1 (wB 4 (wD 5 7 wka) 5 (wD 4 7 wka)) 4 (wE 1 5 7 wka)))))
abbrev wkc:Plan:=wA 1 (wT 2 (wJ 3 4 5 6 7 8 9 10 (wG 11 12 13 14 15 (wB 16 (wJ 17 18 19 20 21 22 23 24 (wA 26 wZ)) 17 (wB 16 (wJ 18 19 20 21 22 23 24 26 wZ) 18 (wB 16 (wI 19 20 21 22 23 24 26 wZ) 19 (wB 16 (wH 20 21 22 23 24 26 wZ) 20 (wH 16 21 22 23 24 26 wZ))))))))
abbrev wkd:Plan:=wB 4 (wB 5 (wE 7 8 9 (wT 10 (wA 11 wZ))) 7 (wE 5 8 9 (wT 10 (wA 11 wZ)))) 7 (wF 4 5 8 9 (wT 10 (wA 11 wZ)))
abbrev wke:Plan:=wT 0 (wT 1 (wB 2 (wT 3 (wB 4 (wB 5 (wF 6 7 8 9 (wT 10 (wA 11 wZ))) 6 (wB 5 (wE 7 8 9 (wT 10 (wA 11 wZ))) 7 (wE 5 8 9 (wT 10 (wA 11 wZ))))) 6 wkd)) 6 (wB 2 (wT 3 wkd) 7 (wA 2 (wT 3 (wF 4 5 8 9 (wT 10 (wA 11 wZ))))))))
abbrev wkf:Plan:=wC 4 (wB 8 (wF 10 21 22 23 (wT 24 (wA 25 wZ))) 10 (wF 8 21 22 23 (wT 24 (wA 25 wZ)))) 8 (wB 4 (wF 10 21 22 23 (wT 24 (wA 25 wZ))) 10 (wB 4 (wE 21 22 23 (wT 24 (wA 25 wZ))) 21 (wE 4 22 23 (wT 24 (wA 25 wZ))))) 10 (wB 4 (wF 8 21 22 23 (wT 24 (wA 25 wZ))) 8 (wB 4 (wE 21 22 23 (wT 24 (wA 25 wZ))) 21 (wE 4 22 23 (wT 24 (wA 25 wZ)))))
abbrev wkg:Plan:=wT 0 (wT 3 (wC 1 (wB 2 (wE 4 5 6 (wT 7 (wA 8 wZ))) 4 (wE 2 5 6 (wT 7 (wA 8 wZ)))) 2 (wB 1 (wE 4 5 6 (wT 7 (wA 8 wZ))) 4 (wB 1 (wD 5 6 (wT 7 (wA 8 wZ))) 5 (wD 1 6 (wT 7 (wA 8 wZ))))) 4 (wB 1 (wE 2 5 6 (wT 7 (wA 8 wZ))) 2 (wB 1 (wD 5 6 (wT 7 (wA 8 wZ))) 5 (wD 1 6 (wT 7 (wA 8 wZ)))))))
abbrev wkh:Plan:=wT 0 (wC 1 (wT 2 (wC 3 (wB 4 (wB 5 (wD 6 7 wZ) 6 (wD 5 7 wZ)) 6 (wE 4 5 7 wZ)) 4 (wB 3 (wB 5 (wD 6 7 wZ) 6 (wD 5 7 wZ)) 6 (wE 3 5 7 wZ)) 6 (wB 3 (wE 4 5 7 wZ) 4 (wE 3 5 7 wZ)))) 4 (wB 1 (wT 2 (wB 3 (wB 5 (wD 6 7 wZ) 6 (wD 5 7 wZ)) 6 (wE 3 5 7 wZ))) 6 (wA 1 (wT 2 (wE 3 5 7 wZ)))) 6 (wB 1 (wT 2 (wB 3 (wE 4 5 7 wZ) 4 (wE 3 5 7 wZ))) 4 (wA 1 (wT 2 (wE 3 5 7 wZ)))))
abbrev wki:Plan:=wT 10 (wE 11 14 15 wZ)
abbrev wkj:Plan:=wB 11 (wD 12 13 wZ) 12 (wD 11 13 wZ)
abbrev wkk:Plan:=wT 0 (wT 1 (wT 5 (wB 2 (wB 3 (wB 4 (wA 6 (wT 7 (wA 8 wZ))) 6 (wA 4 (wT 7 (wA 8 wZ)))) 6 (wD 3 4 (wT 7 (wA 8 wZ)))) 6 (wE 2 3 4 (wT 7 (wA 8 wZ))))))
abbrev wkm:Plan:=wT 0 (wT 2 (wB 1 (wE 3 4 5 (wT 6 (wA 7 wZ))) 3 (wB 1 (wD 4 5 (wT 6 (wA 7 wZ))) 4 (wD 1 5 (wT 6 (wA 7 wZ))))))
abbrev wkn:Plan:=wT 1 (wR 0 (wR 2 (wA 3 (wT 4 (wT 5 wZ)))))
abbrev wko:Plan:=wB 9 (wT 10 (wB 11 (wE 13 14 15 wZ) 13 (wE 11 14 15 wZ))) 13 (wA 9 wki)
abbrev wkp:Plan:=wT 0 (wT 4 (wR 1 (wT 2 (wR 5 (wT 6 (wC 3 (wB 7 (wR 8 (wR 9 (wD 10 11 wZ))) 10 (wA 7 (wR 8 (wR 9 (wA 11 wZ))))) 7 (wB 3 (wR 8 (wR 9 (wD 10 11 wZ))) 10 (wA 3 (wR 8 (wR 9 (wA 11 wZ))))) 10 (wB 3 (wA 7 (wR 8 (wR 9 (wA 11 wZ)))) 7 (wA 3 (wR 8 (wR 9 (wA 11 wZ)))))))))))
abbrev wkq:Plan:=wT 10 (wT 11 wZ)
abbrev wkr:Plan:=wT 1 (wT 5 (wR 2 (wT 3 (wR 6 (wT 7 (wC 0 (wC 4 (wB 8 (wA 9 wkq) 9 (wT 10 (wA 8 (wT 11 wZ)))) 8 (wB 4 (wA 9 wkq) 9 (wA 4 wkq)) 9 (wB 4 (wT 10 (wA 8 (wT 11 wZ))) 8 (wA 4 wkq))) 4 (wB 0 (wB 8 (wA 9 wkq) 9 (wT 10 (wA 8 (wT 11 wZ)))) 8 (wD 0 9 wkq)) 8 (wB 0 (wB 4 (wA 9 wkq) 9 (wA 4 wkq)) 4 (wD 0 9 wkq))))))))
abbrev wks:Plan:=wD 3 4 (wT 5 (wB 6 (wJ 7 8 9 10 11 12 13 14 (wD 15 17 wZ)) 7 (wB 6 (wJ 8 9 10 11 12 13 14 15 (wA 17 wZ)) 8 (wB 6 (wJ 9 10 11 12 13 14 15 17 wZ) 9 (wB 6 (wI 10 11 12 13 14 15 17 wZ) 10 (wI 6 11 12 13 14 15 17 wZ))))))
abbrev wkt:Plan:=wT 0 (wT 1 (wT 4 (wC 2 (wB 3 (wF 5 6 7 8 wZ) 5 (wF 3 6 7 8 wZ)) 3 (wB 2 (wF 5 6 7 8 wZ) 5 (wB 2 (wE 6 7 8 wZ) 6 (wE 2 7 8 wZ))) 5 (wB 2 (wF 3 6 7 8 wZ) 3 (wB 2 (wE 6 7 8 wZ) 6 (wE 2 7 8 wZ))))))
abbrev wku:Plan:=wT 5 (wD 6 9 wki)
abbrev wkv:Plan:=wT 0 (wT 2 (wT 3 (wT 4 (wB 1 (wD 5 6 (wT 7 (wA 8 wZ))) 5 (wD 1 6 (wT 7 (wA 8 wZ)))))))
abbrev wkx:Plan:=wB 3 (wE 6 7 9 wZ) 6 (wE 3 7 9 wZ)
abbrev wky:Plan:=wB 7 (wD 8 9 wZ) 8 (wD 7 9 wZ)
abbrev wkz:Plan:=wT 1 (wR 2 (wD 0 3 (wT 4 (wT 5 wZ))))
abbrev wla:Plan:=wB 4 (wT 5 (wB 6 (wD 8 9 wki) 8 (wD 6 9 wki))) 8 (wA 4 wku)
abbrev wlb:Plan:=wT 1 (wR 2 (wR 3 (wT 4 (wR 5 (wD 0 6 (wT 7 (wT 8 wZ)))))))
abbrev wlc:Plan:=wB 8 (wE 13 14 15 (wT 16 wZ)) 13 (wE 8 14 15 (wT 16 wZ))
abbrev wld:Plan:=wD 2 6 (wT 7 wZ)
abbrev wle:Plan:=wB 5 (wB 6 (wD 7 8 wZ) 7 (wD 6 8 wZ)) 6 (wE 5 7 8 wZ)
abbrev wlf:Plan:=wB 0 (wB 1 (wD 2 3 wZ) 2 (wD 1 3 wZ)) 1 (wE 0 2 3 wZ)
abbrev wlg:Plan:=wB 4 (wT 5 (wB 6 wko 13 (wD 6 9 wki))) 13 (wA 4 wku)
abbrev wlh:Plan:=wR 8 (wT 9 (wR 10 (wD 11 13 wZ)))
abbrev wli:Plan:=wB 0 (wG 1 3 4 5 6 wZ) 1 (wB 0 (wF 3 4 5 6 wZ) 3 (wB 0 (wE 4 5 6 wZ) 4 (wE 0 5 6 wZ)))
def Plans.keys:Plans->List Nat
 |.nil=>[]
 |.cons i _ ps=>i::ps.keys
def zjS:Op->Bool
 |.move _|.assign _|.fieldAddr .. |.makeFunc .. =>true
 |_=>false
def zqY:Op->Bool
 |.move _|.assign _|.fieldAddr .. |.makeFunc .. |.nilCheck _|.indexAddr .. =>true
 |.pick .. |.unOp .. |.binOp .. |.extract .. =>true
 |.call {callee:=.builtin .len,.. }=>true
 |.load _ (.tmp _)=>true
 |_=>false
def plV:LV->LV->Prop
 |.d (.int _ _),.d (.int _ _)=>True
 |.d (.st _),.d (.st _)=>True
 |.d (.bool _),.d (.bool _)=>True
 |_,_=>False
def wqS:LV->Prop
 |.d (.st _)=>True
 |.d (.sl _ _ _)=>True
 |.d (.imm (.slice _ _ _))=>True
 |.os _ _ _=>True
 |_=>False
def qkw (s:S):Op->Prop
 |.load _ (.tmp a)=>sm (s.tm a) fun u=>match u with
   |.ep _ _=>True
   |_=>False
 |.binOp _ _ x y _=>sm (s.ev x) fun u=>sm (s.ev y) fun v=>plV u v
 |.call {callee:=.builtin .len,args,.. }=>sm args.toList.head? fun x=>sm (s.ev x) fun u=>wqS u
 |_=>True
def zqG (E:Env):Option Tmp->Prop
 |some d=>E.vis d=true
 |none=>True
def rdG (E:Env)(sp:FuncId->Option SpecX)(ops:Array Oper)(o:Oper)(s:S)(K:S->Prop):Prop:=
 match o.guard with
 |none=>qkw s o.op/\opK E sp o s K (fun _ _=>False)
 |some (j,want)=>sm (gsl ops j) fun d=>sm (s.tm d) fun x=>match x with
  |.d (.bool b)=>(b=want->qkw {s with tm:=put d (.d (.bool want)) s.tm} o.op/\opK E sp o {s with tm:=put d (.d (.bool want)) s.tm} K (fun _ _=>False))/\
     (b= !want->dOk s o.dst/\K (S.pt {s with tm:=put d (.d (.bool !want)) s.tm} o.dst (.tup [])))
  |.tup []=>dOk s o.dst/\K (S.pt s o.dst (.tup []))
  |_=>False
def rsK (E:Env)(sp:FuncId->Option SpecX)(ops:Array Oper):List Nat->S->(S->Prop)->Prop
 |[],s,K=>K s
 |i::l,s,K=>sm ops[i]? fun o=>zqG E o.dst/\rdG E sp ops o s (fun s'=>rsK E sp ops l s' K)
mutual
def okP (ops:Array Oper):Plan->Nat->Array Bool->Bool
 |.done,_,listed=>(Region.ready .any ops listed).isEmpty
 |.take i p,n,listed=>match n,ops[i]? with
   |n+1,some o=>zjS o.op&&o.guard.isNone&&Region.free .any ops listed i&&(Region.ready .any ops listed).contains i&&okP ops p n (listed.setIfInBounds i true)
   |_,_=>false
 |.rd i p,n,listed=>match n,ops[i]? with
   |n+1,some o=>zqY o.op&&Region.free .any ops listed i&&(Region.ready .any ops listed).contains i&&okP ops p n (listed.setIfInBounds i true)
   |_,_=>false
 |.all ps,n,listed=>match n with
   |n+1=>(Region.ready .any ops listed==ps.keys)&& !ps.keys.isEmpty&&ykY ops ps n listed
   |0=>false
def ykY (ops:Array Oper):Plans->Nat->Array Bool->Bool
 |.nil,_,_=>true
 |.cons i p ps,n,listed=>okP ops p n (listed.setIfInBounds i true)&&ykY ops ps n listed
end
def wkB (E:Env)(sp:FuncId->Option SpecX)(ops:Array Oper)(i:Nat)(s:S)(K:S->Prop)(Kp:D->S->Prop):Prop:=
 match ops[i]? with
 |some o=>opG E sp ops o s K Kp
 |none=>False
mutual
def qx3 (E:Env)(sp:FuncId->Option SpecX)(ops:Array Oper):Plan->S->(S->Prop)->(D->S->Prop)->Prop
 |.done,s,K,_=>K s
 |.take i p,s,K,Kp=>(sm ops[i]? fun o=>zqG E o.dst)/\wkB E sp ops i s (fun s'=>qx3 E sp ops p s' K Kp) Kp
 |.rd i p,s,K,Kp=>rsK E sp ops [i] s fun s'=>qx3 E sp ops p s' K Kp
 |.all ps,s,K,Kp=>qwp E sp ops ps s K Kp
def qwp (E:Env)(sp:FuncId->Option SpecX)(ops:Array Oper):Plans->S->(S->Prop)->(D->S->Prop)->Prop
 |.nil,_,_,_=>True
 |.cons i p ps,s,K,Kp=>wkB E sp ops i s (fun s'=>qx3 E sp ops p s' K Kp) Kp/\qwp E sp ops ps s K Kp
end
def wxT (ops:Array Oper)(p:Plan):List Nat->Nat->Array Bool->Bool
 |[],n,listed=>okP ops p n listed
 |i::l,n,listed=>match n,ops[i]? with
  |n+1,some o=>zqY o.op&&Region.free .any ops listed i&&(Region.ready .any ops listed).contains i&&wxT ops p l n (listed.setIfInBounds i true)
  |_,_=>false
def zjp:Op->Bool
 |.move _|.assign _|.pick .. |.build .. |.load .. |.nilCheck _|.binOp .. |.unOp .. |.convert .. |.makeFunc .. |.fieldAddr .. |.field .. |.indexAddr .. |.index .. |.extract .. =>true
 |.call {callee:=.builtin .len,.. }|.call {callee:=.builtin .min,.. }|.call {callee:=.builtin .max,.. }=>true
 |_=>false
def qxJ (s:S):List Nat->Prop
 |[]=>True
 |k::ks=>(sm (s.bx k) fun b=>b.ty<1000000)/\qxJ s ks
def qjS (s:S)(ks:List Nat)(op:Op):Prop:=qxJ s ks/\(match op with
 |.alloc _=>True
 |.store _ (.tmp p) _=>sm (s.tm p) fun x=>match x with
   |.bp k _=>ks.contains k=false
   |_=>False
 |op=>zjp op=true)
mutual
def wwo (ops:Array Oper):Plan->Nat->Array Bool->Bool
 |.done,_,listed=>(Region.ready .any ops listed).isEmpty
 |.all ps,n,listed=>match n with
   |n+1=>(Region.ready .any ops listed==ps.keys)&& !ps.keys.isEmpty&&wqD ops ps n listed
   |0=>false
 |.take _ _,_,_=>false
 |.rd _ _,_,_=>false
def wqD (ops:Array Oper):Plans->Nat->Array Bool->Bool
 |.nil,_,_=>true
 |.cons i p ps,n,listed=>wwo ops p n (listed.setIfInBounds i true)&&wqD ops ps n listed
end
mutual
def qjO (E:Env)(sp:FuncId->Option SpecX)(ops:Array Oper)(ks:List Nat):Plan->S->(S->Prop)->Prop
 |.done,s,K=>K s
 |.all ps,s,K=>qk7 E sp ops ks ps s K
 |.take _ _,_,_=>False
 |.rd _ _,_,_=>False
def qk7 (E:Env)(sp:FuncId->Option SpecX)(ops:Array Oper)(ks:List Nat):Plans->S->(S->Prop)->Prop
 |.nil,_,_=>True
 |.cons i p ps,s,K=>(sm ops[i]? fun o=>o.guard=none/\qjS s ks o.op/\opK E sp o s (fun s'=>qjO E sp ops ks p s' K) (fun _ _=>False))/\qk7 E sp ops ks ps s K
end
def tkL (ks:List Nat)(u:LV):Prop:=match u.sp with
 |some p=>ks.contains (p.1+1000000)=true
 |none=>match u with
  |.ep _ _=>True
  |.bp k _=>ks.contains k=true
  |_=>False
def tkH (s:S)(ks:List Nat)(op:Op):Prop:=match op with
 |.load _ (.tmp a)=>sm (s.tm a) (tkL ks)
 |op=>qkw s op
def zw2 (ops:Array Oper)(p:Plan):List Nat->Nat->Array Bool->Bool
 |[],n,listed=>wwo ops p n listed
 |i::l,n,listed=>match n,ops[i]? with
  |n+1,some o=>zqY o.op&&o.guard.isNone&&Region.free .any ops listed i&&(Region.ready .any ops listed).contains i&&zw2 ops p l n (listed.setIfInBounds i true)
  |_,_=>false
def wqv (E:Env)(sp:FuncId->Option SpecX)(ops:Array Oper)(ks:List Nat):List Nat->S->(S->Prop)->Prop
 |[],s,K=>K s
 |i::l,s,K=>sm ops[i]? fun o=>zqG E o.dst/\tkH s ks o.op/\opK E sp o s (fun s'=>wqv E sp ops ks l s' K) (fun _ _=>False)
def qkx (E:Env)(sp:FuncId->Option SpecX)(ops:Array Oper)(s:S)(K:S->Prop)(Kp:D->S->Prop):Prop:=
 (∃(ks rs:List Nat) (p:Plan),wxT ops p rs ops.size (Array.replicate ops.size false)=true/\Region.noSelect ops=true/\
   ((zjr ks s fun s=>rsK E sp ops rs s fun s=>qx3 E sp ops p s K Kp)\/∃L:S->Prop,(∀s',L s'->∃s0,K s0/\Sub s' s0)/\zjr ks s fun s=>rsK E sp ops rs s fun s=>qx3 E sp ops p s L Kp))\/
 ((Region.lexB .any ops&&ops.toList.all fun o=>zjp o.op)=true/\zxG E sp ops ops.toList s K (fun _ _=>False))\/
 ∃(fs ks rs:List Nat) (p:Plan) (L:S->Prop),(∀s',L s'->∃s0,K s0/\Sub s' s0)/\zw2 ops p rs ops.size (Array.replicate ops.size false)=true/\Region.noSelect ops=true/\(∀k∈ks,1000<=k)/\
   zjr fs s fun s=>qxJ s ks/\wqv E sp ops ks rs s fun s1=>qjO E sp ops ks p s1 L
def cK (E:Env)(sp:FuncId->Option SpecX):Code->S->(Ex->S->Prop)->(D->S->Prop)->Prop
 |.skip,s,Q,_=>Q .normal s
 |.region _ ops draw,s,Q,Kp=>if draw then qkx E sp ops s (Q .normal) Kp else zxG E sp ops ops.toList s (Q .normal) Kp
 |.seq a b,s,Q,Kp=>cK E sp a s (thenK (fun s'=>cK E sp b s' Q Kp) Q) Kp
 |.cond c a b,s,Q,Kp=>sm (s.ev c) fun x=>jkt x (cK E sp a s Q Kp) (cK E sp b s Q Kp)
 |.block id c,s,Q,Kp=>cK E sp c s (blkK id Q) Kp
 |.exit id,s,Q,_=>Q (.exit id) s
 |.ret,s,Q,_=>Q .ret s
 |.loop c,s,Q,Kp=>∃ks,zjr ks s fun s=>∃(T:Type) (st:T->S) (μ:T->Nat),(∃t,Sub s (st t))/\
    ∀t,cK E sp c (st t) (thenK (fun s'=>∃t',Sub s' (st t')/\μ t'<μ t) Q) Kp
 |.scope c,s,Q,Kp=>cK E sp c s Q Kp
 |.label _,s,Q,_=>Q .normal s
 |_,_,_,_=>False
theorem R.sub {z:Bg}{g:Gh}{ds:List Deferred}{s t:S}{a:Act}{w:World}(h:R z g ds s a w)(hs:Sub s t):∃g',R z g' ds t a w:=by
 have hl:Gh.le g {g with len:=fun r=>(t.ar r).map (·.2.2.length)}:=by{refine⟨rfl,Phi.le_refl _,fun r m' hm=>?_⟩;simp only[Option.map_eq_some_iff]at hm;obtain⟨a,ha,rfl⟩:=hm;have:=h.wd.len r;rw[hs.ar r a ha]at this;exact⟨_,this,Nat.le_refl _,fun _=>rfl⟩};refine⟨{g with len:=fun r=>(t.ar r).map (·.2.2.length)},h.size.trans hs.n,h.defers,fun k x hk=>?_,⟨⟨?_,?_,fun r=>rfl,h.wd.fx,?_,?_,?_,?_,?_⟩,h.rw.fr,⟨?_,?_,h.rw.mine.le,h.rw.mine.fix⟩,h.rw.keys⟩⟩;{obtain⟨h1,h2⟩:=h.tm k x (hs.tm k x hk);exact⟨hs.n▸h1,h2.mono hl⟩};{intro k b hk;obtain⟨vs,h1,h2⟩:=h.wd.box k b (hs.bx k b hk);exact⟨vs,h1.mono hl,h2⟩};{intro r sz ty xs hr;exact h.wd.arr r sz ty xs (hs.ar r _ hr)};exact fun k k' b b' hk hk'=>h.wd.inj k k' b b' (hs.bx k b hk) (hs.bx k' b' hk');exact fun r r' a a' hr hr'=>h.wd.inja r r' a a' (hs.ar r a hr) (hs.ar r' a' hr');exact fun k r b a hk hr=>h.wd.injb k r b a (hs.bx k b hk) (hs.ar r a hr);exact fun k b o hk=>h.wd.outb k b o (hs.bx k b hk);exact fun r a o hr ho=>h.wd.outa r a o (hs.ar r a hr) ho;exact fun k b hk=>h.rw.mine.box k b (hs.bx k b hk);exact fun r a hr=>h.rw.mine.arr r a (hs.ar r a hr)
theorem zxJ {P:Program}{c:Code}{Q:Exit->Act->World->Prop}{T:Type}(I:T->Act->World->Prop)(μ:T->Nat)
  (round:∀t a w,I t a w->c.wp P (Exit.then (fun a' w'=>∃t',I t' a' w'/\μ t'<μ t) Q) a w){t:T}{a:Act}{w:World}(h₀:I t a w):(Code.loop c).wp P Q a w:=by
 intro b k cs;have key:∀n t a w,μ t=n->I t a w-> ∃e a' w',Q e a' w'/\Arrives P (lone (b.at a (.code c:: .inLoop c::k)) cs w) b k cs e a' w':=by{intro n;induction n using Nat.strongRecOn with|_ n ih=>{intro t a w hn hI;obtain⟨e,a₁,w₁,hq,harr⟩:=round t a w hI b (.inLoop c::k) cs;cases e with|normal=>{obtain⟨t',hI₁,hlt⟩:=hq;obtain⟨e₂,a₂,w₂,hq₂,harr₂⟩:=ih (μ t') (hn▸hlt) t' a₁ w₁ rfl hI₁;exact⟨e₂,a₂,w₂,hq₂,.of_steps (Steps.trans harr (.one step_inLoop)) harr₂⟩}|exit id=>{exact⟨_,a₁,w₁,hq,.pass (x:=.inLoop c) rfl (fun _ _=>.inl (by simp)) harr⟩}|goto l=>{exact⟨_,a₁,w₁,hq,.pass (x:=.inLoop c) rfl (fun _ _=>.inl (by simp)) harr⟩}|ret=>{exact⟨_,a₁,w₁,hq,.pass (x:=.inLoop c) rfl (fun _ _=>.inl (by simp)) harr⟩}|panic ch=>{exact⟨_,a₁,w₁,hq,.pass (x:=.inLoop c) rfl (fun _ _=>.inl (by simp)) harr⟩}|outgrown=>{exact⟨_,a₁,w₁,hq,.pass (x:=.inLoop c) rfl (fun _ _=>.inl (by simp)) harr⟩}}};obtain⟨e,a',w',hq,harr⟩:=key _ t a w rfl h₀;exact⟨e,a',w',hq,.of_steps (.one step_loop) harr⟩
section
variable {P:Program}{E:Env}{sp:FuncId->Option SpecX}{z:Bg}[Stb E z] {ds:List Deferred}
def jqS (E:Env)(z:Bg)(ds:List Deferred)(Q:Ex->S->Prop)(Kp:D->S->Prop):Exit->Act->World->Prop
 |.normal,a,w=>∃g s,Q .normal s/\R z g ds s a w
 |.exit i,a,w=>∃g s,Q (.exit i) s/\R z g ds s a w
 |.ret,a,w=>∃g s,Q .ret s/\R z g ds s a w
 |.panic ch,a,w=>∃g d v s a',ch=[{v:=v,recovered:=false}]/\Kp d s/\Rp g.Φ d v/\R z g ds s a' w/\a.defers=ds/\∀k,E.vis k=false->a.tmps.getD k undef=a'.tmps.getD k undef
 |_,_,_=>False
theorem zjb (ht:TOK P E.tl)(hzt:ZOK E.tl)(hsp:∀f Sp,sp f=some Sp->OKX P f Sp){ops:Array Oper}{o:Oper}{g:Gh}{s:S}{a:Act}{w:World}(hR:R z g ds s a w){K:S->Prop}{Kp:D->S->Prop}(h:opG E sp ops o s K Kp)
  {next:Act->World->Prop}{Q:Exit->Act->World->Prop}(hn:∀g' s' a' w',K s'->R z g' ds s' a' w'->next a' w')
  (hp:∀g' d v s' w',Kp d s'->Rp g'.Φ d v->R z g' ds s' a w'->Q (.panic [{v:=v,recovered:=false}]) a w'):
  if Region.wanted o (yielded ops a.tmps)then o.wp P a w next Q else next (a.put o.dst undef) w:=by
 unfold opG at h;unfold Region.wanted;split at h;{rename_i hg;simp only[hg,if_true];exact zwz ht hzt hsp hR h hn hp};{rename_i j want hg;obtain⟨d,hd,x,hx,h⟩:=h;split at h;{rename_i b;obtain⟨hdn,hv⟩:=hR.tm d _ hx;have hy:yielded ops a.tmps j=some b:=by{have hv':=hv.unD;unfold gsl at hd;unfold yielded;have hlt:d<a.tmps.size:=by{rw[hR.size];exact hdn};rw[hd];rw[Array.getD_eq_getD_getElem?,Array.getElem?_eq_getElem hlt]at hv';simp only[Option.getD_some]at hv';simp only[Option.bind_some,Array.getElem?_eq_getElem hlt];generalize a.tmps[d]=q at hv';cases hv';rfl};have hset:∀c,b=c->R z g ds {s with tm:=put d (.d (.bool c)) s.tm} a w:=by{rintro c rfl;have:put d (LV.d (.bool b)) s.tm=s.tm:=by{funext k;by_cases e:k=d;{subst e;rw[qz7,hx]};{rw[qzV _ _ e]}};rw[this];exact hR};simp only[hg,hy];by_cases hb:b=want;{rw[if_pos (by simp[hb])];exact zwz ht hzt hsp (hset _ hb) (h.1 hb) hn hp};{have hb':b= !want:=by{cases b<;>cases want<;>simp_all};rw[if_neg (by simp[hb])];obtain⟨hdo,hK⟩:=h.2 hb';exact hn _ _ _ _ hK ((hset _ hb').pt hdo (.tup .nil))}};{obtain⟨hdn,hv⟩:=hR.tm d _ hx;have hy:yielded ops a.tmps j=none:=by{unfold gsl at hd;unfold yielded;have hlt:d<a.tmps.size:=by{rw[hR.size];exact hdn};rw[hd];rw[Array.getD_eq_getD_getElem?,Array.getElem?_eq_getElem hlt]at hv;simp only[Option.getD_some]at hv;simp only[Option.bind_some,Array.getElem?_eq_getElem hlt];generalize a.tmps[d]=q at hv;cases hv with|tup h0=>{cases h0;rfl}};simp only[hg,hy];rw[if_neg (by simp)];exact hn _ _ _ _ h.2 (hR.pt h.1 (.tup .nil))};exact h.elim}
theorem zjW (ht:TOK P E.tl)(hzt:ZOK E.tl)(hsp:∀f Sp,sp f=some Sp->OKX P f Sp){ops:Array Oper}{K:S->Prop}{Kp:D->S->Prop}{Q:Exit->Act->World->Prop}
  (hn:∀g' s' a' w',K s'->R z g' ds s' a' w'->Q .normal a' w')
  (hp:∀g' d v s' a' w',Kp d s'->Rp g'.Φ d v->R z g' ds s' a' w'->Q (.panic [{v:=v,recovered:=false}]) a' w'):
  ∀(l:List Oper) (g:Gh) (s:S) (a:Act) (w:World),R z g ds s a w->zxG E sp ops l s K Kp->wpList P ops Q l a w
 |[],g,s,a,w,hR,h=>hn g s a w h hR
 |o::l,g,s,a,w,hR,h=>by
  refine wpList_step fun N hN=>?_;exact zjb ht hzt hsp hR h (fun g' s' a' w' hK hR'=>hN _ _ (zjW ht hzt hsp hn hp l g' s' a' w' hR' hK)) (fun g' d v s' w' h1 h2 h3=>hp g' d v s' a w' h1 h2 h3)
theorem zjR (ht:TOK P E.tl){g:Gh}{s:S}{a:Act}{w:World}(hR:R z g ds s a w){o:Oper}{K:S->Prop}{Kp:D->S->Prop}(hpu:zjS o.op=true)(h:opK E sp o s K Kp):
  ∃r q,(dOk s o.dst/\K (s.pt o.dst r))/\LRp g r q/\∀w',(execOp a.eval o).run P w'=.ok (.value q) w':=by
 unfold zjS at hpu;obtain⟨dst,op,ty,pos,af,gd⟩:=o;cases op<;>simp only[Bool.false_eq_true]at hpu;(case move x=>obtain⟨r,hr,hK⟩:=h;exact⟨r,_,hK,qzH hR hr,fun w'=>by simp[execOp]⟩);(case assign x=>obtain⟨r,hr,hK⟩:=h;exact⟨r,_,hK,qzH hR hr,fun w'=>by simp[execOp]⟩);(case makeFunc f xs ys=>obtain⟨us,hus,vs,hvs,hK⟩:=h;obtain⟨_,_,h1⟩:=qvI hR hus;obtain⟨_,_,h2⟩:=qvI hR hvs;refine⟨_,_,hK,.fn f h1 h2,fun w'=>?_⟩;simp only[execOp,Instr.makeFunc,Sem.run_bind,Sem.run_pure,Result.andThen_ok];congr 3<;>(apply Array.ext';simp));case fieldAddr t x f=>obtain⟨i,hi,⟨off,ft⟩,hp,fi,hfi,hz,u,hu,h⟩:=h;obtain⟨fs,fd,hd,hf,rfl,rfl⟩:=prt_run' ht hi hp;have hs:=ht.sizeOf hfi;have hv:=qzH hR hu;have key:∀b k w,(Instr.fieldAt t (.pointer (some ⟨b,k,none⟩)) f).run P w=.ok (.pointer (some ⟨b,k+fd.offset,none⟩)) w:=by{intro b k w;have h1:=hd w;simp[Instr.fieldAt,h1,hf,Instr.sureAddr,fieldPlace,hs,hz,Addr.add_none]};split at h;{cases hx:a.eval x<;>rw[hx]at hv<;>cases hv;exact⟨_,_,h,.bp _ _,fun w'=>by simp[execOp,hx,key]⟩};{cases hx:a.eval x<;>rw[hx]at hv<;>cases hv;rename_i b k hc hp;exact⟨_,.pointer (some ⟨b,k+(_+fd.offset),none⟩),h,.ep b k _ hp hc,fun w'=>by simp[execOp,hx,key,Nat.add_assoc]⟩};{have hv':=hv.unD;cases hx:a.eval x<;>rw[hx]at hv'<;>cases hv';exact⟨_,_,h,.d (.imm _),fun w'=>by simp[execOp,hx,key]⟩};{rename_i r sz n j k;obtain⟨ar,har,hn,hK⟩:=h;cases hv with|ap h0 hv=>{have hl:=hR.wd.len r;rw[har]at hl;have hx:=(hv _ hl).2 hn;refine⟨_,.pointer (some ⟨(g.α r).1,j*sz+(k+fd.offset),none⟩),hK,.ap rfl fun m hm=>?_,fun w'=>by simp[execOp,hx,key,Nat.add_assoc]⟩;rw[hl]at hm;simp only[Option.map_some,Option.some.injEq]at hm;exact⟨by rw[<-hm,hn];exact Nat.le_refl _,fun _=>rfl⟩}};exact h.elim
theorem zwO (ht:TOK P E.tl){s:S}{g:Gh}{w:World}(hw:Wd g s.bx s.ar w){t:TypeId}{x:LV}{K:LV->Prop}(h:zxp E s t x K){v:Value}(hx:LRp g x v)(hl:wqS x)(ty:TypeId):
  ∃r q,K r/\LRp g r q/\∀w':World,(Builtin.len_ #[t] ty #[v]).run P w'=.ok q w':=by
 obtain⟨ti,hti,h⟩:=h;obtain⟨d0,hd0,hu⟩:=ht.und hti;split at h;{rename_i hd;obtain rfl:=zz1 (hd0.trans hd);split at h;{rename_i b;cases hx.unD;refine⟨_,_,h,.d (.int _ _),fun w'=>?_⟩;have hs:(⟨b.toArray⟩:ByteArray).size=b.length:=rfl;simp[Builtin.len_,hu,goInt,hs]};exact h.elim};{rename_i e hd;obtain rfl:=qjh (hd0.trans hd);obtain⟨te,hte,h⟩:=h;split at h;{rename_i x;obtain⟨⟨xs,f⟩,hp,h⟩:=h;refine⟨_,_,h,.d (.int _ _),fun w'=>?_⟩;rcases qk2 hx.unD hp with⟨rfl,a',cap,rfl,hf⟩|⟨hn,us,b,off,cap,rfl,hus,hsz,hc,hcap,hf⟩<;>simp[Builtin.len_,hu,goInt]};{rename_i r sz n;obtain⟨a,ha,h1,h⟩:=h;cases hx with|os h0 hx=>{have hl:=hw.len r;rw[ha]at hl;have hv:=(hx _ hl).2 h1;subst hv;exact⟨_,_,h,.d (.int _ _),fun w'=>by simp[Builtin.len_,hu,goInt]⟩}};exact h.elim};all_goals first|(exact h.elim)|(split at h<;>first|exact hl.elim|exact h.elim)
theorem wqT (ht:TOK P E.tl){s:S}{g:Gh}{w:World}(hw:Wd g s.bx s.ar w){t:TypeId}{x:LV}{K:LV->Prop}(h:zjk E s t x K){v:Value}(hx:LRp g x v)(hl:wqS x)(ty:TypeId):
  ∃r q,K r/\LRp g r q/\∀w':World,(Builtin.len_ #[t] ty #[v]).run P w'=.ok q w':=by
 unfold zjk at h;split at h;{rename_i p e;obtain rfl:=LV.ss_eq e;obtain⟨ti,hti,h⟩:=h;obtain⟨d0,hd0,hu⟩:=ht.und hti;split at h;{rename_i e hd;obtain rfl:=qjh (hd0.trans hd);obtain⟨te,hte,hK⟩:=h;have hx':=hx.unD;cases hx';exact⟨_,_,hK,.d (.int _ _),fun w'=>by simp[Builtin.len_,hu,goInt]⟩};exact h.elim};exact zwO ht hw h hx hl ty
def qxo (g:Gh)(w:World):Prop:=∀b o v,g.Φ b o=some v->w.cell? ⟨b,o,none⟩=some v
theorem zzS (ht:TOK P E.tl){g:Gh}{s:S}{a:Act}{w:World}(hR:R z g ds s a w){o:Oper}{K:S->Prop}{Kp:D->S->Prop}(hpu:zqY o.op=true)(htk:qkw s o.op)(h:opK E sp o s K Kp):
  ∃r q,(dOk s o.dst/\K (s.pt o.dst r))/\LRp g r q/\∀w',qxo g w'->(execOp a.eval o).run P w'=.ok (.value q) w':=by
 have old:zjS o.op=true->∃r q,(dOk s o.dst/\K (s.pt o.dst r))/\LRp g r q/\∀w',qxo g w'->(execOp a.eval o).run P w'=.ok (.value q) w':=fun hp=>by{obtain⟨r,q,h1,h2,h3⟩:=zjR ht hR hp h;exact⟨r,q,h1,h2,fun w' _=>h3 w'⟩};cases e:o.op<;>rw[e]at hpu htk<;>simp only[zqY,Bool.false_eq_true]at hpu;(case move x=>exact old (by rw[e];rfl));(case assign x=>exact old (by rw[e];rfl));(case fieldAddr t x f=>exact old (by rw[e];rfl));(case makeFunc f xs ys=>exact old (by rw[e];rfl));(case nilCheck x=>obtain⟨dst,op,ty,pos,af,gd⟩:=o;simp only at e;subst e;unfold opK at h;obtain⟨v,hv,h⟩:=h;have hx:=qzH hR hv;split at h;{cases hv':a.eval x<;>rw[hv']at hx<;>cases hx;exact⟨_,_,h,.bp _ _,fun w' _=>by simp[execOp,hv']⟩};{cases hv':a.eval x<;>rw[hv']at hx<;>cases hx;rename_i b o hc hp;exact⟨_,_,h,.ep b o _ hp hc,fun w' _=>by simp[execOp,hv']⟩};{cases hv':a.eval x<;>rw[hv']at hx<;>cases hx;rename_i h1 h2;exact⟨_,_,h,.fn _ h1 h2,fun w' _=>by simp[execOp,hv']⟩};{have hx':=hx.unD;cases hv':a.eval x<;>rw[hv']at hx'<;>cases hx';exact⟨_,_,h,.d (.imm _),fun w' _=>by simp[execOp,hv']⟩};exact h.elim);(case indexAddr t x i=>obtain⟨dst,op,ty,pos,af,gd⟩:=o;simp only at e;subst e;unfold opK at h;obtain⟨v,hv,j,hj,h⟩:=h;split at h;{rename_i k n;have hi:a.eval i=.int k n:=by{have:=(qzH hR hj).unD;generalize a.eval i=v at this;cases this;rfl};obtain⟨r,q,hK,hr,hq⟩:=zwT (k:=k) ht h hR.wd (qzH hR hv);exact⟨r,q,hK,hr,fun w' _=>by simp[execOp,hi,hq w']⟩};exact h.elim);(case pick c x y=>obtain⟨dst,op,ty,pos,af,gd⟩:=o;simp only at e;subst e;unfold opK at h;obtain⟨cv,hc,h⟩:=h;unfold LV.tr at h;split at h;{rename_i b;have:=(qzH hR hc).unD;cases hv:a.eval c<;>rw[hv]at this<;>cases this;cases b with|true=>{obtain⟨r,hr,hK⟩:=h.1 rfl;exact⟨r,_,hK,qzH hR hr,fun w' _=>by simp[execOp,hv,asBool]⟩}|false=>{obtain⟨r,hr,hK⟩:=h.2 rfl;exact⟨r,_,hK,qzH hR hr,fun w' _=>by simp[execOp,hv,asBool]⟩}};exact h.elim);(case unOp op t x=>obtain⟨dst,op',ty,pos,af,gd⟩:=o;simp only at e;subst e;unfold opK at h;obtain⟨u,hu,h⟩:=h;have hv:=qzH hR hu;split at h;{have:=hv.unD;cases hx:a.eval x<;>rw[hx]at this<;>cases this;exact⟨_,_,h,.d (.bool _),fun w' _=>by simp[execOp,hx,Op.unary]⟩};{have:=hv.unD;cases hx:a.eval x<;>rw[hx]at this<;>cases this;obtain⟨r,hK,hr⟩:=qwP h;exact⟨r,_,hK,hr g,fun w' _=>by simp[execOp,hx,Op.unary,Op.intArith]⟩};exact h.elim);(case extract x i=>obtain⟨dst,op',ty,pos,af,gd⟩:=o;simp only at e;subst e;unfold opK at h;obtain⟨v,hv,h⟩:=h;have hx:=qzH hR hv;split at h;{obtain⟨y,hy,hK⟩:=h;cases hx':a.eval x<;>rw[hx']at hx<;>cases hx;rename_i vs h1;obtain⟨q,hq,hr⟩:=h1.get hy;exact⟨y,q,hK,hr,fun w' _=>by simp[execOp,hx',Instr.extract,hq]⟩};exact h.elim);(case binOp op t x y yt=>obtain⟨dst,op',ty,pos,af,gd⟩:=o;simp only at e;subst e;obtain⟨u1,hu1,v1,hv1,htk⟩:=htk;unfold opK at h;obtain⟨u,hu,v,hv,h⟩:=h;have e1:u=u1:=by{rw[hu]at hu1;simpa using hu1};have e2:v=v1:=by{rw[hv]at hv1;simpa using hv1};subst e1 e2;have hb:binK E op t u v fun r=>dOk s dst/\K (s.pt dst r):=by{unfold plV at htk;split at htk;exact h;exact h;exact h;exact htk.elim};obtain⟨r,q,hK,hr,hq⟩:=zkH ht hb (qzH hR hu) (qzH hR hv) x y;refine⟨r,q,hK,hr,fun w' _=>?_⟩;simp only[execOp];rw[Sem.run_bind,hq w'];rfl);(case call c=>obtain⟨callee,args,tys⟩:=c;(cases callee<;>try(simp only[Bool.false_eq_true]at hpu;done));rename_i bi;cases bi<;>simp only[Bool.false_eq_true]at hpu;obtain⟨dst,op',ty,pos,af,gd⟩:=o;simp only at e;subst e;unfold opK at h;simp only at h;unfold valK at h;simp only at h;split at h;{rename_i x t hargs htys;obtain⟨v,hv,h⟩:=h;obtain rfl:args=#[x]:=by{apply Array.ext';simpa using hargs};obtain rfl:tys=#[t]:=by{apply Array.ext';simpa using htys};obtain⟨x',hx',v',hv',htk⟩:=htk;have ex:x'=x:=by{simpa using hx'.symm};subst ex;have ev:v=v':=by{rw[hv]at hv';simpa using hv'};subst ev;have h:zjk E s t v fun r=>dOk s dst/\K (s.pt dst r):=by{unfold wqS at htk;split at htk<;>first|exact h|exact htk.elim};obtain⟨r,q,hK,hr,hq⟩:=wqT ht hR.wd h (qzH hR hv) htk ty;exact⟨r,q,hK,hr,fun w' _=>by simp[execOp,resolve,invoke,builtin,hq w']⟩};exact h.elim);case load t x=>cases x<;>simp only[Bool.false_eq_true]at hpu;rename_i tt;obtain⟨dst,op,ty,pos,af,gd⟩:=o;simp only at e;subst e;obtain⟨u,hu,htk⟩:=htk;unfold opK at h;obtain⟨i,hi,u',hu',h⟩:=h;have:u'=u:=by{have h1:s.tm tt=some u':=hu';rw[hu]at h1;simpa using h1.symm};subst this;split at htk;{rename_i x off;obtain⟨y,q,hK,hq,hrun⟩:=wkT (s:=s) ht hi (qzH hR hu') h;exact⟨y,q,hK,hq,fun w' hw'=>by simp[execOp,hrun w' hw']⟩};exact htk.elim
instance [i:Stb E z] (p:Nat->Nat->Option Value):Stb E ⟨z.own,{z.g with Φ:=p},z.w⟩:=⟨i.h⟩
theorem R.base {g:Gh}{s:S}{a:Act}{w:World}(h:R z g ds s a w):R ⟨z.own,{z.g with Φ:=g.Φ},z.w⟩ g ds s a w:=
 ⟨h.size,h.defers,h.tm,⟨h.rw.wd,h.rw.fr,⟨h.rw.mine.box,h.rw.mine.arr,Phi.le_refl _,fun b o v hv=>.inl hv⟩,h.rw.keys⟩⟩
theorem R.unbase {g g':Gh}{s s':S}{a a':Act}{w w':World}(h0:R z g ds s a w)(h:R ⟨z.own,{z.g with Φ:=g.Φ},z.w⟩ g' ds s' a' w'):R z g' ds s' a' w':=
 ⟨h.size,h.defers,h.tm,⟨h.rw.wd,h.rw.fr,⟨h.rw.mine.box,h.rw.mine.arr,Phi.le_trans h0.rw.mine.le h.rw.mine.le,fun b o v hv=>by
   rcases h.rw.mine.fix b o v hv with h'|h'|h';exact h0.rw.mine.fix b o v h';exact .inr (.inl h');exact .inr (.inr h')⟩,h.rw.keys⟩⟩
theorem R.holds {g:Gh}{s:S}{a:Act}{w:World}(h:R z g ds s a w):qxo z.g w:=fun b o v hv=>(h.wd.fix b o v (h.rw.mine.le b o v hv)).1
theorem R.drawn {z:Bg}{g:Gh}{ds:List Deferred}{s:S}{a:Act}{w:World}(h:R z g ds s a w)(n:Nat):R z g ds s a {w with drawn:=n}:=
 ⟨h.size,h.defers,h.tm,⟨⟨h.rw.wd.box,h.rw.wd.arr,h.rw.wd.len,h.rw.wd.fx,h.rw.wd.inj,h.rw.wd.inja,h.rw.wd.injb,h.rw.wd.outb,h.rw.wd.outa⟩,⟨h.rw.fr.os,h.rw.fr.tape,h.rw.fr.output,h.rw.fr.size,h.rw.fr.block⟩,h.rw.mine,h.rw.keys⟩⟩
theorem wqB (ht:TOK P E.tl)(hzt:ZOK E.tl)(hsp:∀f Sp,sp f=some Sp->OKX P f Sp){ops:Array Oper}{i:Nat}{g:Gh}{s:S}{a:Act}{w:World}(hR:R z g ds s a w){K:S->Prop}{Kp:D->S->Prop}(h:wkB E sp ops i s K Kp)
  {next:Act->World->Prop}{Q:Exit->Act->World->Prop}(hn:∀g' s' a' w',K s'->R z g' ds s' a' w'->next a' w')
  (hp:∀g' d v s' w',Kp d s'->Rp g'.Φ d v->R z g' ds s' a w'->Q (.panic [{v:=v,recovered:=false}]) a w'):wpOp P ops Q i next a w:=by
 unfold wkB at h;unfold wpOp;split at h;{rename_i o ho;simp only[ho];have:=zjb ht hzt hsp hR h hn hp;split;{rename_i hw;rw[if_pos hw]at this;exact .inl this};{rename_i hw;rw[if_neg hw]at this;exact this}};exact h.elim
theorem zjJ (ht:TOK P E.tl){ops:Array Oper}(hns:Region.noSelect ops=true){p:Plan}{K:S->Prop}{Q:Exit->Act->World->Prop}
  (hQ:∀c a w d v,zqG E d->Q (.panic c) (Act.put a d v) w->Q (.panic c) a w){g:Gh}{w:World}(hg:z.g.Φ=g.Φ)
  (hn:∀n listed s a,K s->R z g ds s a w->okP ops p n listed=true->wpAnyH P .any ops Q (qxo z.g) n listed a w):
  ∀(l:List Nat) (n:Nat) (listed:Array Bool) (s:S) (a:Act),R z g ds s a w->wxT ops p l n listed=true->rsK E sp ops l s K->wpAnyH P .any ops Q (qxo z.g) n listed a w
 |[],n,listed,s,a,hR,hok,h=>hn n listed s a h hR hok
 |i::l,n,listed,s,a,hR,hok,h=>by
  unfold wxT at hok;split at hok;{rename_i n o ho;simp only[Bool.and_eq_true]at hok;obtain⟨⟨⟨h1,h3⟩,h4⟩,h5⟩:=hok;unfold rsK at h;obtain⟨o',ho',hvis,h⟩:=h;rw[ho]at ho';simp only[Option.some.injEq]at ho';subst ho';have take:∀(s2:S) (r:LV) (q:Value),R z g ds s2 a w->dOk s2 o.dst->LRp g r q->rsK E sp ops l (s2.pt o.dst r) K->YieldsIf P ops (qxo z.g) o q a->wpAnyH P .any ops Q (qxo z.g) (n+1) listed a w:=by{intro s2 r q hR2 hd hr hK hy;exact wpAnyH_take ho hns h3 h4 (fun c a w=>hQ c a w _ _ hvis) hy hR2.holds (zjJ ht hns hQ hg hn l n _ _ _ (hR2.pt hd hr) h5 hK)};unfold rdG at h;split at h;{rename_i hg0;obtain⟨htk,h⟩:=h;obtain⟨r,q,⟨hd,hK⟩,hr,hrun⟩:=zzS ht hR h1 htk h;exact take s r q hR hd hr hK (.inl ⟨by simp[Region.wanted,hg0],fun w hw=>hrun w (by unfold qxo at hw⊢;rw[<-hg];exact hw)⟩)};{rename_i jj want hg0;obtain⟨d,hd0,x,hx,h⟩:=h;split at h;{rename_i b;obtain⟨hdn,hv⟩:=hR.tm d _ hx;have hy:yielded ops a.tmps jj=some b:=by{have hv':=hv.unD;unfold gsl at hd0;unfold yielded;have hlt:d<a.tmps.size:=by{rw[hR.size];exact hdn};rw[hd0];rw[Array.getD_eq_getD_getElem?,Array.getElem?_eq_getElem hlt]at hv';simp only[Option.getD_some]at hv';simp only[Option.bind_some,Array.getElem?_eq_getElem hlt];generalize a.tmps[d]=q at hv';cases hv';rfl};have hset:∀c,b=c->R z g ds {s with tm:=put d (.d (.bool c)) s.tm} a w:=by{rintro c rfl;have:put d (LV.d (.bool b)) s.tm=s.tm:=by{funext k;by_cases e:k=d;{subst e;rw[qz7,hx]};{rw[qzV _ _ e]}};rw[this];exact hR};by_cases hb:b=want;{obtain⟨htk,h⟩:=h.1 hb;obtain⟨r,q,⟨hd,hK⟩,hr,hrun⟩:=zzS ht (hset _ hb) h1 htk h;exact take _ r q (hset _ hb) hd hr hK (.inl ⟨by simp[Region.wanted,hg0,hy,hb],fun w hw=>hrun w (by unfold qxo at hw⊢;rw[<-hg];exact hw)⟩)};{have hb':b= !want:=by{cases b<;>cases want<;>simp_all};obtain⟨hdo,hK⟩:=h.2 hb';exact take _ (.tup []) undef (hset _ hb') hdo (.tup .nil) hK (.inr ⟨by simp[Region.wanted,hg0,hy,hb],rfl⟩)}};{obtain⟨hdn,hv⟩:=hR.tm d _ hx;have hy:yielded ops a.tmps jj=none:=by{unfold gsl at hd0;unfold yielded;have hlt:d<a.tmps.size:=by{rw[hR.size];exact hdn};rw[hd0];rw[Array.getD_eq_getD_getElem?,Array.getElem?_eq_getElem hlt]at hv;simp only[Option.getD_some]at hv;simp only[Option.bind_some,Array.getElem?_eq_getElem hlt];generalize a.tmps[d]=q at hv;cases hv with|tup h0=>{cases h0;rfl}};exact take s (.tup []) undef hR h.1 (.tup .nil) h.2 (.inr ⟨by simp[Region.wanted,hg0,hy],rfl⟩)};exact h.elim}};{cases hok}
theorem qwZ {md:Region.Mode}{ops:Array Oper}{Q:Exit->Act->World->Prop}{A B:World->Prop}(h:∀w,A w->B w):∀(n:Nat) (listed:Array Bool) (a:Act) (w:World),wpAnyH P md ops Q A n listed a w->wpAnyH P md ops Q B n listed a w
 |0,_,_,_,hh=>hh
 |n+1,_,_,_,hh=>⟨hh.1,fun i hi=>wpOp_mono (fun a' w' h'=>⟨h _ h'.1,qwZ h n _ a' w' h'.2⟩) (hh.2 i hi)⟩
mutual
theorem qkR (ht:TOK P E.tl)(hzt:ZOK E.tl)(hsp:∀f Sp,sp f=some Sp->OKX P f Sp){ops:Array Oper}(hns:Region.noSelect ops=true){K:S->Prop}{Kp:D->S->Prop}{Q:Exit->Act->World->Prop}
  (hQ:∀c a w d v,zqG E d->Q (.panic c) (Act.put a d v) w->Q (.panic c) a w):
  ∀(p:Plan) (z:Bg) [Stb E z] (_:∀g' s' a' w',K s'->R z g' ds s' a' w'->Q .normal a' w') (_:∀g' d v s' a' w',Kp d s'->Rp g'.Φ d v->R z g' ds s' a' w'->Q (.panic [{v:=v,recovered:=false}]) a' w') (n:Nat) (listed:Array Bool) (g:Gh) (s:S) (a:Act) (w:World),R z g ds s a w->okP ops p n listed=true->qx3 E sp ops p s K Kp->wpAnyH P .any ops Q (qxo z.g) n listed a w
 |.done,z,_,hn,hp,n,listed,g,s,a,w,hR,hok,h=>wpAnyH_done (by simpa[okP]using hok) (hn g s a w h hR) n
 |.take i p,z,_,hn,hp,n,listed,g,s,a,w,hR,hok,h=>by
   unfold okP at hok;split at hok;{rename_i n o ho;simp only[Bool.and_eq_true]at hok;obtain⟨⟨⟨⟨h1,h2⟩,h3⟩,h4⟩,h5⟩:=hok;unfold qx3 wkB at h;obtain⟨⟨o',ho',hvis⟩,h⟩:=h;rw[ho]at ho';simp only[Option.some.injEq]at ho';subst ho';simp only[ho]at h;have hg:o.guard=none:=by{simpa using h2};unfold opG at h;simp only[hg]at h;obtain⟨r,q,⟨hd,hK⟩,hr,hrun⟩:=zjR ht hR h1 h;refine wpAnyH_take ho hns h3 h4 (fun c a w=>hQ c a w _ _ hvis) (.inl ⟨by simp[Region.wanted,hg],fun w _=>hrun w⟩) hR.holds ?_;exact qkR ht hzt hsp hns hQ p z hn hp n _ g _ _ w (hR.pt hd hr) h5 hK};{cases hok}
 |.rd i p,z,_,hn,hp,n,listed,g,s,a,w,hR,hok,h=>by
   unfold okP at hok;split at hok;{rename_i n o ho;unfold qx3 at h;refine qwZ (A:=qxo {z.g with Φ:=g.Φ}) (fun w hw b o v hv=>hw b o v (hR.rw.mine.le b o v hv)) _ _ _ _ ?_;refine zjJ (z:=⟨z.own,{z.g with Φ:=g.Φ},z.w⟩) (g:=g) (p:=p) ht hns hQ rfl (fun n' listed' s' a' h' hR' hok'=>?_) [i] (n+1) listed s a hR.base ?_ h;exact qkR ht hzt hsp hns hQ p ⟨z.own,{z.g with Φ:=g.Φ},z.w⟩ (fun g' s' a' w' hK hR2=>hn g' s' a' w' hK (hR.unbase hR2)) (fun g' d v s' a' w' h1 h2 h3=>hp g' d v s' a' w' h1 h2 (hR.unbase h3)) n' listed' g s' a' w hR' hok' h';{unfold wxT;simp only[ho,wxT];exact hok}};{cases hok}
 |.all ps,z,_,hn,hp,n,listed,g,s,a,w,hR,hok,h=>by
   unfold okP at hok;split at hok;{rename_i n;simp only[Bool.and_eq_true]at hok;obtain⟨⟨h1,h2⟩,h3⟩:=hok;have h1':Region.ready .any ops listed=ps.keys:=by{simpa using h1};refine wpAnyH_all h1' (by simpa using h2) fun i hi=>?_;exact zqZ ht hzt hsp hns hQ ps z hn hp n listed g s a w hR h3 h i hi};{cases hok}
theorem zqZ (ht:TOK P E.tl)(hzt:ZOK E.tl)(hsp:∀f Sp,sp f=some Sp->OKX P f Sp){ops:Array Oper}(hns:Region.noSelect ops=true){K:S->Prop}{Kp:D->S->Prop}{Q:Exit->Act->World->Prop}
  (hQ:∀c a w d v,zqG E d->Q (.panic c) (Act.put a d v) w->Q (.panic c) a w):
  ∀(ps:Plans) (z:Bg) [Stb E z] (_:∀g' s' a' w',K s'->R z g' ds s' a' w'->Q .normal a' w') (_:∀g' d v s' a' w',Kp d s'->Rp g'.Φ d v->R z g' ds s' a' w'->Q (.panic [{v:=v,recovered:=false}]) a' w') (n:Nat) (listed:Array Bool) (g:Gh) (s:S) (a:Act) (w:World),R z g ds s a w->ykY ops ps n listed=true->qwp E sp ops ps s K Kp->
    ∀i∈ps.keys,wpOp P ops Q i (fun a' w'=>qxo z.g w'/\wpAnyH P .any ops Q (qxo z.g) n (listed.setIfInBounds i true) a' w') a w
 |.nil,_,_,_,_,_,_,_,_,_,_,_,_,_,_,hi=>by cases hi
 |.cons j p ps,z,_,hn,hp,n,listed,g,s,a,w,hR,hok,h,i,hi=>by
   unfold ykY at hok;simp only[Bool.and_eq_true]at hok;unfold qwp at h;simp only[Plans.keys,List.mem_cons]at hi;rcases hi with rfl|hi;exact wqB ht hzt hsp hR h.1 (fun g' s' a' w' hK hR'=>⟨hR'.holds,qkR ht hzt hsp hns hQ p z hn hp n _ g' s' a' w' hR' hok.1 hK⟩) (fun g' d v s' w' h1 h2 h3=>hp g' d v s' a w' h1 h2 h3);exact zqZ ht hzt hsp hns hQ ps z hn hp n listed g s a w hR hok.2 h.2 i hi
end
theorem zwy {sp:FuncId->Option SpecX}{o:Oper}{s:S}{K:S->Prop}{Kp:D->S->Prop}(hv:zjp o.op=true)(h:opK E sp o s K Kp):valK E o.op s fun x=>dOk s o.dst/\K (s.pt o.dst x):=by
 obtain⟨dst,op,ty,pos,af,gd⟩:=o;unfold opK at h;simp only at h hv⊢;split at h<;>first|exact h|(exfalso;revert hv;simp[zjp];done)
theorem zzF (ht:TOK P E.tl)(hzt:ZOK E.tl){sp:FuncId->Option SpecX}{ops:Array Oper}{K:S->Prop}{Q:Act->Prop}{g:Gh}{w:World}(hn:∀s a,K s->R z g ds s a w->Q a):
  ∀(l:List Oper) (s:S) (a:Act),R z g ds s a w->(l.all fun o=>zjp o.op)=true->zxG E sp ops l s K (fun _ _=>False)->wpStill P ops w Q l a
 |[],s,a,hR,_,h=>hn s a h hR
 |o::l,s,a,hR,hv,h=>by
  simp only[List.all_cons,Bool.and_eq_true]at hv;obtain⟨hv1,hv2⟩:=hv;refine wpStill_step fun N hN=>?_;have next:∀s2,R z g ds s2 a w->opK E sp o s2 (fun s'=>zxG E sp ops l s' K (fun _ _=>False)) (fun _ _=>False)->o.still P a w N:=by{intro s2 hR2 hk;obtain⟨r,q,⟨hd,hK⟩,hr,hrun⟩:=zzA ht hzt hR2 (zwy hv1 hk);unfold Oper.still;rw[hrun,Oper.stillUpon_value];exact hN _ (zzF ht hzt hn l _ _ (hR2.pt hd hr) hv2 hK)};unfold zxG opG at h;unfold Region.wanted;split at h;{rename_i hg;simp only[hg,if_true];exact next s hR h};{rename_i j want hg;obtain⟨d,hd,x,hx,h⟩:=h;split at h;{rename_i b;obtain⟨hdn,hv⟩:=hR.tm d _ hx;have hy:yielded ops a.tmps j=some b:=by{have hv':=hv.unD;unfold gsl at hd;unfold yielded;have hlt:d<a.tmps.size:=by{rw[hR.size];exact hdn};rw[hd];rw[Array.getD_eq_getD_getElem?,Array.getElem?_eq_getElem hlt]at hv';simp only[Option.getD_some]at hv';simp only[Option.bind_some,Array.getElem?_eq_getElem hlt];generalize a.tmps[d]=q at hv';cases hv';rfl};have hset:∀c,b=c->R z g ds {s with tm:=put d (.d (.bool c)) s.tm} a w:=by{rintro c rfl;have:put d (LV.d (.bool b)) s.tm=s.tm:=by{funext k;by_cases e:k=d;{subst e;rw[qz7,hx]};{rw[qzV _ _ e]}};rw[this];exact hR};simp only[hg,hy];by_cases hb:b=want;{rw[if_pos (by simp[hb])];exact next _ (hset _ hb) (h.1 hb)};{have hb':b= !want:=by{cases b<;>cases want<;>simp_all};rw[if_neg (by simp[hb])];obtain⟨hdo,hK⟩:=h.2 hb';exact hN _ (zzF ht hzt hn l _ _ ((hset _ hb').pt hdo (.tup .nil)) hv2 hK)}};{obtain⟨hdn,hv⟩:=hR.tm d _ hx;have hy:yielded ops a.tmps j=none:=by{unfold gsl at hd;unfold yielded;have hlt:d<a.tmps.size:=by{rw[hR.size];exact hdn};rw[hd];rw[Array.getD_eq_getD_getElem?,Array.getElem?_eq_getElem hlt]at hv;simp only[Option.getD_some]at hv;simp only[Option.bind_some,Array.getElem?_eq_getElem hlt];generalize a.tmps[d]=q at hv;cases hv with|tup h0=>{cases h0;rfl}};simp only[hg,hy];rw[if_neg (by simp)];exact hN _ (zzF ht hzt hn l _ _ (hR.pt h.1 (.tup .nil)) hv2 h.2)};exact h.elim}
theorem qvz {s:S}:∀{ks:List Nat},qxJ s ks->∀k∈ks,∃b,s.bx k=some b/\b.ty<1000000
 |j::ks,h,k,hk=>by
  cases hk with|head=>{exact h.1}|tail _ hk=>{exact qvz h.2 k hk}
theorem wqW (ht:TOK P E.tl)(hzt:ZOK E.tl)(hsp:∀f Sp,sp f=some Sp->OKX P f Sp){g:Gh}{s:S}{a:Act}{w:World}(hR:R z g ds s a w){ks:List Nat}(hks:∀k∈ks,1000<=k)
  {o:Oper}{K:S->Prop}(hk:qjS s ks o.op)(h:opK E sp o s K (fun _ _=>False)){next:Act->World->Prop}{Q:Exit->Act->World->Prop}(hn:∀g' s' a' w',K s'->R z g' ds s' a' w'->next a' w'):
  o.wp P a w (fun a' w'=>(∀k∈ks,w'.heap[z.g.β k]?=w.heap[z.g.β k]?)/\next a' w') Q:=by
 obtain⟨hall,hk⟩:=hk;have val:zjp o.op=true->o.wp P a w (fun a' w'=>(∀k∈ks,w'.heap[z.g.β k]?=w.heap[z.g.β k]?)/\next a' w') Q:=by{intro hv;obtain⟨r,q,⟨hd,hK⟩,hr,hrun⟩:=zzA ht hzt hR (zwy hv h);unfold Oper.wp;rw[hrun];exact⟨fun _ _=>rfl,hn _ _ _ _ hK (hR.pt hd hr)⟩};split at hk;{rename_i t e;unfold opK at h;rw[e]at h;simp only at h;obtain⟨i,hi,h⟩:=h;have hz:=ht.zero hi w;have hnt:=hzt t i (qqi hi);have hc:LRps g (vcs i.zero) i.zero.cells.toList:=TOK.vcs (P:=P) (tl:=E.tl) g (fun vs e'=>by rw[e']at hnt;simp[qwu]at hnt);have:=zq3 hR hc h hn;unfold Oper.wp;have hrun:(execOp a.eval o).run P w=.ok (.value (.pointer (some ⟨w.heap.size,0,none⟩))) (w.alloc (.cells i.zero.cells.toList.toArray t)):=by{simp[execOp,e,Instr.alloc,hz,newVar,newRow]};rw[hrun];refine⟨fun k hk=>?_,this⟩;obtain⟨b,hb,_⟩:=qvz hall k hk;have hlt:=hR.wd.lt_box hb;rw[hR.rw.keys k (hks k hk)]at hlt;simp only[World.alloc];rw[Array.getElem?_push,if_neg (by omega)]};{rename_i t p x e;obtain⟨y,hy,hk⟩:=hk;split at hk;{rename_i k off;unfold opK at h;rw[e]at h;simp only at h;obtain⟨hdn,pv,hpv,xv,hxv,h⟩:=h;have hpv':pv=.bp k off:=by{have h1:s.tm p=some pv:=hpv;rw[hy]at h1;exact(Option.some.inj h1).symm};subst hpv';have h:storK0 E s t (.bp k off) xv K:=h;obtain⟨i,hi,b,hb,hty,cs,hcs,hK⟩:=h;have hp0:=qzH hR hpv;have hx0v:=qzH hR hxv;cases hpe:a.eval (.tmp p)<;>rw[hpe]at hp0<;>cases hp0;obtain⟨vs,hvs,hh,hone⟩:=hR.wd.box k b hb;rw[qzU hty]at hh;obtain⟨us,h1,h2,h3,h4,h5,h6⟩:=wxC hx0v hvs hone hcs;have hset:=Set1.setRow w (g.β k) vs.toArray (vs.take off++us++vs.drop (off+us.length)).toArray b.ty (0,0) hh;have hR':R z g ds {s with bx:=put k ⟨cs,b.ty⟩ s.bx} a (w.setRow (g.β k) (vs.take off++us++vs.drop (off+us.length)).toArray):=⟨hR.size,hR.defers,hR.tm,hR.rw.setBox hb (by rw[qzU hty];exact hset) h5 h6⟩;have hrun:=qjo ht hi hh h1 h2 (by simpa using h3) h4;unfold Oper.wp;have hrun':(execOp a.eval o).run P w=.ok .skip (w.setRow (g.β k) (vs.take off++us++vs.drop (off+us.length)).toArray):=by{simp only[execOp,e,hpe,Sem.run_bind];rw[hrun];rfl};rw[hrun',Oper.upon_skip,hdn];refine⟨fun k0 hk0=>hset.old _ fun e'=>?_,hn _ _ _ _ hK hR'⟩;obtain⟨b0,hb0,_⟩:=qvz hall k0 hk0;rw[<-hR.rw.keys k0 (hks k0 hk0)]at e';have:=hR.wd.inj k0 k _ _ hb0 hb e';subst this;rw[List.contains_iff_mem.2 hk0]at hk;cases hk};exact hk.elim};exact val hk
def qk3 (g:Gh)(ks:List Nat)(w0 w:World):Prop:=qxo g w/\∀k∈ks,w.heap[g.β k]?=w0.heap[g.β k]?
theorem wkU (ht:TOK P E.tl){t:TypeId}{i:TI}(hi:E.ti t=some i){g:Gh}{s:S}{w:World}(hw:Wd g s.bx s.ar w){k off:Nat}{K:LV->Prop}(h:ldK s i (.bp k off) K):
  ∃y u,K y/\LRp g y u/\∀w':World,w'.heap[g.β k]?=w.heap[g.β k]?->(Instr.loadAt t (.pointer (some ⟨g.β k,off,none⟩))).run P w'=.ok u w':=by
 obtain⟨b,hb,hty,y,hy,hK⟩:=h;obtain⟨vs,hvs,hh,_⟩:=hw.box k b hb;rw[qzU hty]at hh;obtain⟨u,hu,hr⟩:=zjT ht hi (b:=g.β k) (o:=0) hvs hy;refine⟨y,u,hK,hu,fun w' hw'=>?_⟩;have:=hr w' fun j v hj=>by{simp only[World.cell?,hw',hh];simpa using hj};simpa using this
mutual
theorem zxb (ht:TOK P E.tl)(hzt:ZOK E.tl)(hsp:∀f Sp,sp f=some Sp->OKX P f Sp){ops:Array Oper}{ks:List Nat}(hks:∀k∈ks,1000<=k){w0:World}{K:S->Prop}{Q:Exit->Act->World->Prop}
  (hn:∀g' s' a' w',K s'->R z g' ds s' a' w'->Q .normal a' w'):
  ∀(p:Plan) (n:Nat) (listed:Array Bool) (g:Gh) (s:S) (a:Act) (w:World),R z g ds s a w->(∀k∈ks,w.heap[z.g.β k]?=w0.heap[z.g.β k]?)->wwo ops p n listed=true->qjO E sp ops ks p s K->wpAnyH P .any ops Q (qk3 z.g ks w0) n listed a w
 |.done,n,listed,g,s,a,w,hR,_,hok,h=>wpAnyH_done (by simpa[wwo]using hok) (hn g s a w h hR) n
 |.take i p,n,listed,g,s,a,w,hR,_,hok,h=>h.elim
 |.rd i p,n,listed,g,s,a,w,hR,_,hok,h=>h.elim
 |.all ps,n,listed,g,s,a,w,hR,hw,hok,h=>by
   unfold wwo at hok;split at hok;{rename_i n;simp only[Bool.and_eq_true]at hok;obtain⟨⟨h1,h2⟩,h3⟩:=hok;have h1':Region.ready .any ops listed=ps.keys:=by{simpa using h1};refine wpAnyH_all h1' (by simpa using h2) fun i hi=>?_;exact zzk ht hzt hsp hks hn ps n listed g s a w hR hw h3 h i hi};{cases hok}
theorem zzk (ht:TOK P E.tl)(hzt:ZOK E.tl)(hsp:∀f Sp,sp f=some Sp->OKX P f Sp){ops:Array Oper}{ks:List Nat}(hks:∀k∈ks,1000<=k){w0:World}{K:S->Prop}{Q:Exit->Act->World->Prop}
  (hn:∀g' s' a' w',K s'->R z g' ds s' a' w'->Q .normal a' w'):
  ∀(ps:Plans) (n:Nat) (listed:Array Bool) (g:Gh) (s:S) (a:Act) (w:World),R z g ds s a w->(∀k∈ks,w.heap[z.g.β k]?=w0.heap[z.g.β k]?)->wqD ops ps n listed=true->qk7 E sp ops ks ps s K->
    ∀i∈ps.keys,wpOp P ops Q i (fun a' w'=>qk3 z.g ks w0 w'/\wpAnyH P .any ops Q (qk3 z.g ks w0) n (listed.setIfInBounds i true) a' w') a w
 |.nil,_,_,_,_,_,_,_,_,_,_,_,hi=>by cases hi
 |.cons j p ps,n,listed,g,s,a,w,hR,hw,hok,h,i,hi=>by
   unfold wqD at hok;simp only[Bool.and_eq_true]at hok;unfold qk7 at h;simp only[Plans.keys,List.mem_cons]at hi;rcases hi with rfl|hi;{obtain⟨⟨o,ho,hg,hk,h⟩,_⟩:=h;unfold wpOp;simp only[ho];rw[if_pos (by simp[Region.wanted,hg])];refine .inl (Oper.wp_mono (fun a' w' hh=>?_) (wqW ht hzt hsp hR hks hk h (next:=fun a' w'=>∃g' s',qjO E sp ops ks p s' K/\R z g' ds s' a' w') (Q:=Q) fun g' s' a' w' hK hR'=>⟨g',s',hK,hR'⟩));obtain⟨h1,g',s',hK,hR'⟩:=hh;have h2:∀k∈ks,w'.heap[z.g.β k]?=w0.heap[z.g.β k]?:=fun k hk=>(h1 k hk).trans (hw k hk);exact⟨⟨hR'.holds,h2⟩,zxb ht hzt hsp hks hn p n _ g' s' a' w' hR' h2 hok.1 hK⟩};exact zzk ht hzt hsp hks hn ps n listed g s a w hR hw hok.2 h.2 i hi
end
theorem zvZ (ht:TOK P E.tl){sp:FuncId->Option SpecX}{ops:Array Oper}(hns:Region.noSelect ops=true){p:Plan}{ks:List Nat}(hks:∀k∈ks,1000<=k){K:S->Prop}{Q:Exit->Act->World->Prop}
  (hQ:∀c a w d v,zqG E d->Q (.panic c) (Act.put a d v) w->Q (.panic c) a w){g:Gh}{w:World}(hg:z.g.Φ=g.Φ)
  (hn:∀n listed s a,K s->R z g ds s a w->wwo ops p n listed=true->wpAnyH P .any ops Q (qk3 z.g ks w) n listed a w):
  ∀(l:List Nat) (n:Nat) (listed:Array Bool) (s:S) (a:Act),R z g ds s a w->zw2 ops p l n listed=true->wqv E sp ops ks l s K->wpAnyH P .any ops Q (qk3 z.g ks w) n listed a w
 |[],n,listed,s,a,hR,hok,h=>hn n listed s a h hR hok
 |i::l,n,listed,s,a,hR,hok,h=>by
  unfold zw2 at hok;split at hok;{rename_i n o ho;simp only[Bool.and_eq_true]at hok;obtain⟨⟨⟨⟨h1,h2⟩,h3⟩,h4⟩,h5⟩:=hok;unfold wqv at h;obtain⟨o',ho',hvis,htk,h⟩:=h;rw[ho]at ho';simp only[Option.some.injEq]at ho';subst ho';have hg0:o.guard=none:=by{simpa using h2};have take:∀(r:LV) (q:Value),dOk s o.dst->LRp g r q->wqv E sp ops ks l (s.pt o.dst r) K->(∀w',qk3 z.g ks w w'->(execOp a.eval o).run P w'=.ok (.value q) w')->wpAnyH P .any ops Q (qk3 z.g ks w) (n+1) listed a w:=by{intro r q hd hr hK hy;exact wpAnyH_take ho hns h3 h4 (fun c a w=>hQ c a w _ _ hvis) (.inl ⟨by simp[Region.wanted,hg0],hy⟩) ⟨hR.holds,fun _ _=>rfl⟩ (zvZ ht hns hks hQ hg hn l n _ _ _ (hR.pt hd hr) h5 hK)};have old:qkw s o.op->wpAnyH P .any ops Q (qk3 z.g ks w) (n+1) listed a w:=by{intro htk;obtain⟨r,q,⟨hd,hK⟩,hr,hrun⟩:=zzS ht hR h1 htk h;exact take r q hd hr hK fun w' hw'=>hrun w' (by have:=hw'.1;unfold qxo at this⊢;rw[<-hg];exact this)};have load:∀(t:TypeId) (x:Tmp) (k off:Nat),o.op=.load t (.tmp x)->k∈ks->a.eval (.tmp x)=.pointer (some ⟨g.β k,off,none⟩)->∀ti,E.ti t=some ti->ldK s ti (.bp k off) (fun r=>dOk s o.dst/\wqv E sp ops ks l (s.pt o.dst r) K)->wpAnyH P .any ops Q (qk3 z.g ks w) (n+1) listed a w:=by{intro t x k off e hk hpe ti hti h;obtain⟨y,q,⟨hd,hK⟩,hq,hrun⟩:=wkU ht hti hR.wd h;refine take y q hd hq hK fun w' hw'=>?_;have:=hrun w' (by have:=hw'.2 k hk;rw[hR.rw.keys k (hks k hk)];exact this);simp only[execOp,e,hpe,Sem.run_bind,this];rfl};unfold tkH at htk;split at htk;{rename_i t x e;obtain⟨u,hu,htk⟩:=htk;have h':=h;unfold opK at h;rw[e]at h;simp only at h;unfold valK at h;simp only at h;obtain⟨ti,hti,u',hu',h⟩:=h;have:u'=u:=by{have h6:s.tm x=some u':=hu';rw[hu]at h6;exact(Option.some.inj h6).symm};subst this;have hp0:=qzH hR hu';unfold tkL at htk;unfold ldX at h;split at htk;{rename_i q eq;rw[eq]at h;obtain⟨he,h⟩:=h;obtain rfl:=LV.sp_eq eq;have hp1:=hp0.unD;generalize hpe:a.eval (.tmp x)=pv at hp1;cases hp1;refine load t x _ _ e (List.contains_iff_mem.1 htk) ?_ ti hti h;rw[hpe,Stb.get he hR.rw]};{rename_i eq;rw[eq]at h;split at htk;{refine old ?_;rw[e];exact⟨_,hu,trivial⟩};{rename_i k off;cases hpe:a.eval (.tmp x)<;>rw[hpe]at hp0<;>cases hp0;exact load t x k off e (List.contains_iff_mem.1 htk) hpe ti hti h};exact htk.elim}};exact old htk};{cases hok}
theorem qxK (hmix:P.follows .mixedOrders=true)(ht:TOK P E.tl)(hzt:ZOK E.tl)(hsp:∀f Sp,sp f=some Sp->OKX P f Sp){Kp:D->S->Prop}:
  ∀(c:Code) (Q:Ex->S->Prop) (g:Gh) (s:S) (a:Act) (w:World),R z g ds s a w->cK E sp c s Q Kp->c.wp P (jqS E z ds Q Kp) a w
 |.skip,Q,g,s,a,w,hR,h=>wp_skip ⟨g,s,h,hR⟩
 |.region id ops draw,Q,g,s,a,w,hR,h=>by
   simp only[cK]at h;split at h;{rename_i hd;subst hd;have hv:∀c (a:Act) (w:World) (d:Option Tmp) (v:Value),zqG E d->jqS E z ds Q Kp (.panic c) (Act.put a d v) w->jqS E z ds Q Kp (.panic c) a w:=by{intro c a w d v hv hq;obtain⟨g',d',v',s',a',h1,h2,h3,h4,h5,h6⟩:=hq;refine⟨g',d',v',s',a',h1,h2,h3,h4,?_,fun k hk=>?_⟩;{cases d<;>exact h5};{rw[<-h6 k hk];cases d with|none=>{rfl}|some d=>{have e:d≠k:=by{rintro rfl;simp only[zqG]at hv;rw[hv]at hk;cases hk};simp only[Act.put];rw[Array.getD_eq_getD_getElem?,Array.getD_eq_getD_getElem?,Array.getElem?_setIfInBounds,if_neg e]}}};rcases h with⟨ks,rs,p,hok,hns,h⟩|⟨hb,h⟩|⟨fs,ks,rs,p,L,hL,hok,hns,hks,h⟩;{rcases h with h|⟨L,hL,h⟩;{obtain⟨g1,s1,h1,hR1⟩:=qve (hR.drawn (w.drawn+1)) h;refine wp_region_held (S:=qxo {z.g with Φ:=g1.Φ}) hmix ?_;refine zjJ (z:=⟨z.own,{z.g with Φ:=g1.Φ},z.w⟩) (g:=g1) ht hns hv rfl (fun n listed s2 a2 h hR2 hok2=>?_) rs _ _ s1 a hR1.base hok h1;refine qkR ht hzt hsp hns hv p ⟨z.own,{z.g with Φ:=g1.Φ},z.w⟩ (fun g' s' a' w' hK hR'=>?_) (fun g' d v s' a' w' h1 h2 h3=>?_) _ _ g1 s2 a2 _ hR2 hok2 h;exact⟨g',s',hK,hR1.unbase hR'⟩;exact⟨g',d,v,s',a',rfl,h1,h2,hR1.unbase h3,h3.defers,fun _ _=>rfl⟩};{obtain⟨g1,s1,h1,hR1⟩:=qve (hR.drawn (w.drawn+1)) h;refine wp_region_held (S:=qxo {z.g with Φ:=g1.Φ}) hmix ?_;refine zjJ (z:=⟨z.own,{z.g with Φ:=g1.Φ},z.w⟩) (g:=g1) ht hns hv rfl (fun n listed s2 a2 h hR2 hok2=>?_) rs _ _ s1 a hR1.base hok h1;refine qkR ht hzt hsp hns hv p ⟨z.own,{z.g with Φ:=g1.Φ},z.w⟩ (fun g' s' a' w' hK hR'=>?_) (fun g' d v s' a' w' h1 h2 h3=>?_) _ _ g1 s2 a2 _ hR2 hok2 h;{obtain⟨s0,h0,hK⟩:=hL _ hK;obtain⟨g'',hR''⟩:=(hR1.unbase hR').sub hK;exact⟨g'',s0,h0,hR''⟩};exact⟨g',d,v,s',a',rfl,h1,h2,hR1.unbase h3,h3.defers,fun _ _=>rfl⟩}};{rw[Bool.and_eq_true]at hb;exact wp_region_still hmix hb.1 (zzF ht hzt (fun s' a' hK hR'=>⟨g,s',hK,hR'⟩) _ s a (hR.drawn (w.drawn+1)) hb.2 h)};{obtain⟨g1,s1,⟨hall,h1⟩,hR1⟩:=qve (hR.drawn (w.drawn+1)) h;refine wp_region_held (S:=qk3 {z.g with Φ:=g1.Φ} ks {w with drawn:=w.drawn+1}) hmix ?_;refine zvZ (z:=⟨z.own,{z.g with Φ:=g1.Φ},z.w⟩) (g:=g1) ht hns hks hv rfl (fun n listed s2 a2 h hR2 hok2=>?_) rs _ _ s1 a hR1.base hok h1;refine zxb ht hzt hsp hks (fun g' s' a' w' hK hR'=>?_) p n listed g1 s2 a2 _ hR2 (fun _ _=>rfl) hok2 h;obtain⟨s0,hs0,hK⟩:=hL _ hK;obtain⟨g'',hR''⟩:=(hR1.unbase hR').sub hK;exact⟨g'',s0,hs0,hR''⟩}};{rename_i hd;simp only[Bool.not_eq_true]at hd;subst hd;refine wp_region_list ?_;exact zjW ht hzt hsp (fun g' s' a' w' hK hR'=>⟨g',s',hK,hR'⟩) (fun g' d v s' a' w' h1 h2 h3=>⟨g',d,v,s',a',rfl,h1,h2,h3,h3.defers,fun _ _=>rfl⟩) _ g s a w hR h}
 |.seq x y,Q,g,s,a,w,hR,h=>by
   refine wp_seq (wp_mono (qxK hmix ht hzt hsp x _ g s a w hR h) fun e a' w' hq=>?_);cases e with|normal=>{obtain⟨g',s',hq,hR'⟩:=hq;exact qxK hmix ht hzt hsp y Q g' s' a' w' hR' hq}|_=>{exact hq}
 |.cond c x y,Q,g,s,a,w,hR,h=>by
   obtain⟨v,hv,h⟩:=h;unfold jkt at h;split at h;{rename_i b;have:=(qzH hR hv).unD;cases hx:a.eval c<;>rw[hx]at this<;>cases this;refine wp_cond_split hx (fun hb=>qxK hmix ht hzt hsp x Q g s a w hR (h.1 hb)) (fun hb=>qxK hmix ht hzt hsp y Q g s a w hR (h.2 hb))};exact h.elim
 |.block id c,Q,g,s,a,w,hR,h=>by
   refine wp_block (wp_mono (qxK hmix ht hzt hsp c _ g s a w hR h) fun e a' w' hq=>?_);cases e with|exit i=>{obtain⟨g',s',hq,hR'⟩:=hq;simp only[blkK]at hq;simp only[Exit.inBlock];split at hq;{rename_i e;rw[if_pos e];exact⟨g',s',hq,hR'⟩};{rename_i e;rw[if_neg e];exact⟨g',s',hq,hR'⟩}}|_=>{exact hq}
 |.exit id,Q,g,s,a,w,hR,h=>wp_exit ⟨g,s,h,hR⟩
 |.ret,Q,g,s,a,w,hR,h=>wp_ret ⟨g,s,h,hR⟩
 |.loop c,Q,g,s,a,w,hR,h=>by
   obtain⟨ks,h⟩:=h;obtain⟨g1,s1,⟨T,st,μ,⟨t,hs⟩,hround⟩,hR1⟩:=qve hR h;obtain⟨g',hR'⟩:=hR1.sub hs;refine zxJ (fun t a w=>∃g,R z g ds (st t) a w) μ ?_ ⟨g',hR'⟩;rintro t a w ⟨g,hR⟩;refine wp_mono (qxK hmix ht hzt hsp c _ g (st t) a w hR (hround t)) fun e a' w' hq=>?_;cases e with|normal=>{obtain⟨g',s',⟨t',hs',hlt⟩,hR'⟩:=hq;obtain⟨g'',hR''⟩:=hR'.sub hs';exact⟨t',⟨g'',hR''⟩,hlt⟩}|_=>{exact hq}
 |.rangeFunc ..,_,_,_,_,_,_,h=>h.elim
 |.scope c,Q,g,s,a,w,hR,h=>wp_scope_straight (wp_mono (qxK hmix ht hzt hsp c Q g s a w hR h) fun e a' w' hq=>by
   cases e with|goto l=>{exact hq}|_=>exact hq)
 |.label _,Q,g,s,a,w,hR,h=>wp_label ⟨g,s,h,hR⟩
 |.goto ..,_,_,_,_,_,_,h=>h.elim
 |.refuse ..,_,_,_,_,_,_,h=>h.elim
end
end Lx
