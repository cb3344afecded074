import Derived.Test.YtkknljojdgpdaaaGreatDoorB07
import Derived.Test.YtkknljojdgpdaaaGreatDoorB08
set_option maxHeartbeats 32000000
set_option linter.unusedSimpArgs false
set_option linter.unusedVariables false
namespace Lx
open Go
attribute [go_sem] Int.natCast_pow Int.cast_ofNat_Int Int.natCast_mul Int.natCast_shiftLeft Int.natCast_emod Int.ofNat_sub Int.natCast_shiftRight Int.natCast_add_one Int.natCast_add Int.cast_id Int.natCast_sub Int.natCast_ediv Int.natCast_succ
attribute [go_sem] reduceIte dreduceIte reduceDIte dreduceDIte reduceCtorEq Nat.isValue Nat.reduceEqDiff Nat.reduceAdd Nat.reduceSub Nat.reduceMul Nat.reduceLT Nat.reduceGT Nat.reduceBEq Nat.reduceBNe Nat.reduceLeDiff Nat.reduceSubDiff Nat.reduceBeqDiff Nat.reduceBneDiff Nat.reduceSucc Nat.reduceDiv Nat.reduceMod Nat.reducePow Int.isPosValue Int.reduceLT Int.reduceLE Int.reduceGT Int.reduceGE Int.reduceToNat Int.reduceAdd Int.reduceSub Int.reduceMul Int.reduceNeg Int.reduceEq Int.reduceNe Int.reduceBEq Int.reduceBNe Int.reduceNegSucc Int.reduceNatCast Int.reduceNatCast' Int.reduceOfNat Int.reduceDiv Int.reduceMod Int.reduceTDiv Int.reduceTMod List.reduceReplicate Array.reduceGetElem Array.reduceGetElem?
@[go_sem]theorem n0a (n:Nat):0+n=n:=Nat.zero_add n
@[go_sem]theorem na0 (n:Nat):n+0=n:=rfl
@[go_sem]theorem n0l (n:Nat):(0<=n)=True:=eq_true (Nat.zero_le n)
@[go_sem]theorem nsn (n:Nat):(n+1=0)=False:=eq_false (Nat.succ_ne_zero n)
section
variable {α β:Type}{E:Env}{sp:FuncId->Option SpecX}
@[go_sem]theorem jqZ (k j:Nat)(x:α)(f:Nat->Option α):put k x f j=if j=k then some x else f j:=(rfl)
@[go_sem]theorem yvk (h:α->β)(k:Nat)(f:Nat->Option α):mapf h (del k f)=del k (mapf h f):=by
  funext j;simp only[mapf,del];split<;>rfl
@[go_sem]theorem wjp (k:Nat)(x:α)(f:Nat->Option α):del k (put k x f)=del k f:=by
  funext j;simp only[del,put];split<;>rfl
@[go_sem]theorem jkg (k:Nat):del k (nix:Nat->Option α)=nix:=by
  funext j;simp only[del];split<;>rfl
@[go_sem]theorem jkh (k j:Nat)(f:Nat->Option α):del k f j=if j=k then none else f j:=(rfl)
@[go_sem]theorem yvi (h:α->β)(k:Nat)(x:α)(f:Nat->Option α):mapf h (put k x f)=put k (h x) (mapf h f):=by
  funext j;unfold mapf put;split<;>rfl
@[go_sem]theorem yvj (h:α->β):mapf h (nix:Nat->Option α)=nix:=(rfl)
@[go_sem]theorem jxE (j:Nat):(nix:Nat->Option α) j=none:=(rfl)
end
theorem nr {α:Sort _}{a b:α}(h:a=b):a=b:=by cases h;exact Eq.refl _
abbrev iD (n:Int):LV:=.d (.int .i64 n)
theorem nq {p:Prop}(h:p):p:=h
theorem tF:(∀{α:Type} [BEq α] [LawfulBEq α] (a:α),(a != a)=false)/\(∀{α:Type} [BEq α] [ReflBEq α] (a:α),(a==a)=true)/\((false=true)=False)/\((true=false)=False)/\(∀p:Prop,(False->p)=True)/\(∀p:Prop,(True->p)=p)/\(∀p:Prop,(True/\p)=p)/\(∀p:Prop,(p/\True)=p)/\∀{β:Type} (a:β),(a=a)=True:=⟨fun a=>bne_self_eq_false a,fun a=>beq_self_eq_true a,Bool.false_eq_true,Bool.true_eq_false,false_implies,true_implies,true_and,and_true,eq_self⟩
structure Ph {α:Sort _}(a:α):Type where
def smW {α:Type}(o:Option α)(K:α->Prop)(_w:Ph K):Prop:=sm o K
def evW {α:Type}(x:α)(K:α->Prop)(_w:Ph K):Prop:=K x
def qxU (p:Prop)(_w:Ph p):Prop:=p
@[go_sem ↓]theorem kvv {α:Type}(o:Option α)(K:α->Prop):sm o K=smW o K ⟨⟩:=(rfl)
@[go_sem]theorem ykn {α:Type}(x:α)(K:α->Prop)(w:Ph K):smW (some x) K w=K x:=by simp[smW,sm]
@[go_sem]theorem yko {α:Type}(K:α->Prop)(w:Ph K):smW none K w=False:=by simp[smW,sm]
@[go_sem]theorem kxM {α:Type}(x:α)(K:α->Prop)(w:Ph K):evW x K w=K x:=(rfl)
theorem zvH {α:Type}{o:Option α}{K:α->Prop}{w:Ph K}{x:α}(h:o=some x)(hK:K x):smW o K w:=⟨x,h,hK⟩
@[go_sem ↓]theorem kvg:type_of% @cK.eq_1:=nq @cK.eq_1
@[go_sem ↓]theorem kvf:type_of% @cK.eq_3:=nq @cK.eq_3
@[go_sem ↓]theorem kve:type_of% @cK.eq_4:=nq @cK.eq_4
@[go_sem ↓]theorem kvd:type_of% @cK.eq_5:=nq @cK.eq_5
@[go_sem ↓]theorem kvc:type_of% @cK.eq_6:=nq @cK.eq_6
@[go_sem ↓]theorem kvb:type_of% @cK.eq_7:=nq @cK.eq_7
@[go_sem ↓]theorem kva:type_of% @cK.eq_9:=nq @cK.eq_9
@[go_sem ↓]theorem kjm:type_of% @cK.eq_10:=nq @cK.eq_10
@[go_sem ↓]theorem jqn:type_of% @valK.eq_1:=nq @valK.eq_1
@[go_sem ↓]theorem jqm:type_of% @valK.eq_2:=nq @valK.eq_2
@[go_sem ↓]theorem jql:type_of% @valK.eq_3:=nq @valK.eq_3
@[go_sem ↓]theorem jqk:type_of% @valK.eq_4:=nq @valK.eq_4
@[go_sem ↓]theorem jqj:type_of% @valK.eq_5:=nq @valK.eq_5
@[go_sem ↓]theorem jqi:type_of% @valK.eq_6:=nq @valK.eq_6
@[go_sem ↓]theorem jqh:type_of% @valK.eq_7:=nq @valK.eq_7
@[go_sem ↓]theorem jqg:type_of% @valK.eq_8:=nq @valK.eq_8
@[go_sem ↓]theorem jqf:type_of% @valK.eq_9:=nq @valK.eq_9
@[go_sem ↓]theorem yjR:type_of% @valK.eq_10:=nq @valK.eq_10
@[go_sem ↓]theorem yjQ:type_of% @valK.eq_11:=nq @valK.eq_11
@[go_sem ↓]theorem yjP:type_of% @valK.eq_12:=nq @valK.eq_12
@[go_sem ↓]theorem yjO:type_of% @valK.eq_13:=nq @valK.eq_13
@[go_sem ↓]theorem yjN:type_of% @valK.eq_14:=nq @valK.eq_14
@[go_sem ↓]theorem yjM:type_of% @valK.eq_15:=nq @valK.eq_15
@[go_sem ↓]theorem yjL:type_of% @valK.eq_16:=nq @valK.eq_16
@[go_sem ↓]theorem yjK:type_of% @valK.eq_17:=nq @valK.eq_17
@[go_sem ↓]theorem yjJ:type_of% @valK.eq_18:=nq @valK.eq_18
@[go_sem ↓]theorem yjI:type_of% @valK.eq_19:=nq @valK.eq_19
@[go_sem ↓]theorem ykj:type_of% @storK0.eq_1:=nq @storK0.eq_1
@[go_sem ↓]theorem ykk (E:Env)(s:S)(t:TypeId)(k o:Nat)(x:LV)(K:S->Prop):zxM E s t (.bp k o) x K=storK0 E s t (.bp k o) x K:=(rfl)
@[go_sem ↓]theorem ykl (E:Env)(s:S)(t:TypeId)(r z n j o:Nat)(x:LV)(K:S->Prop):zxM E s t (.ap r z n j o) x K=storK0 E s t (.ap r z n j o) x K:=(rfl)
@[go_sem ↓]theorem yki (E:Env)(s:S)(t:TypeId)(b o:Nat)(x:LV)(K:S->Prop):zxM E s t (.d (.imm (.pointer (some ⟨b,o,none⟩)))) x K=(E.hp=true/\storK0 E s t (.bp (b+1000000) o) x K):=(rfl)
@[go_sem ↓]theorem jk7:type_of% @boxK.eq_1:=nq @boxK.eq_1
@[go_sem ↓]theorem jk5:type_of% @bslK.eq_1:=nq @bslK.eq_1
@[go_sem ↓]theorem jkX:type_of% @appK0.eq_1:=nq @appK0.eq_1
@[go_sem ↓]theorem yxI (E:Env)(s:S)(d:Nat)(t:TypeId)(x y:LV)(K:S->Prop):wwB E s (some d) t x y K=if E.st d then sm (E.ti t) fun ti=>
   match ti.desc with
   |.sli e=>sm (E.ti e) fun te=>0<te.size/\e<1000000/\d<s.n/\match y with
     |.d y=>wwA E s d e te x y K
     |_=>False
   |_=>False
  else appK0 E s (some d) t x y K:=by
  unfold wwB;simp only[Option.map_some,Option.getD_some];congr;funext ti;cases ti.desc<;>rfl
@[go_sem ↓]theorem jkV (E:Env)(s:S)(d:Nat)(e:TypeId)(te:TI)(x:LV)(z:Nat)(xs:List D)(f:Bool)(K:S->Prop):wwA E s d e te x (.sl z xs f) K=sm ((D.sl z xs f).asl te.size) fun q=>evW q.1 (fun ys=>wvE E s d e te x ys K) ⟨⟩:=(rfl)
@[go_sem ↓]theorem ywf (E:Env)(s:S)(d:Nat)(e:TypeId)(te:TI)(x:LV)(n c:Nat)(K:S->Prop):wwA E s d e te x (.imm (.slice none n c)) K=sm ((D.imm (.slice none n c)).asl te.size) fun q=>evW q.1 (fun ys=>wvE E s d e te x ys K) ⟨⟩:=(rfl)
@[go_sem ↓]theorem jkU (E:Env)(s:S)(d:Nat)(e:TypeId)(te:TI)(x:LV)(b n c:Nat)(K:S->Prop):wwA E s d e te x (.imm (.slice (some ⟨b,0,none⟩) n c)) K=(E.hp=true/\∃bb,s.bx (b+1000000)=some bb/\bb.ty=e/\∃ys:List D,ys.length=n/\ys.all (D.el te.size)=true/\bb.cells.take (n*te.size)=ys.flatMap D.lcs/\wvE E s d e te x ys K):=(rfl)
@[go_sem ↓]theorem jkW (E:Env)(s:S)(d:Nat)(e:TypeId)(te:TI)(x:LV)(ys:List D)(K:S->Prop):wvE E s d e te x ys K=(E.hp=true/\ys.all D.flat=true/\(vcs te.zero).all one=true/\qxU (match x.ss with
  |some p=>p.2.1=0/\sm (s.bx (p.1+1000000)) fun bb=>bb.ty=e/\p.2.2.2*te.size<=bb.cells.length/\(p.2.2.1+ys.length<=p.2.2.2->bb.cells.length=p.2.2.2*te.size)/\p.2.2.1<=p.2.2.2/\
    p.2.2.1+ys.length<=9223372036854775807/\(p.2.2.1+ys.length)*te.bytes<=140737488355328/\
    (ys=[]->K (s.pt (some d) x))/\
    (ys≠[]->∀b c,del (p.1+1000000) s.bx (b+1000000)=none->p.2.2.1+ys.length<=c->K (s.nSl d b (p.2.2.1+ys.length) c (elC te.size (p.2.2.1+ys.length) c (bb.cells.take (p.2.2.1*te.size)) ys) e (del (p.1+1000000) s.bx)))
  |none=>match x with
   |.d x=>sm (x.asl te.size) fun q=>q.1=[]/\q.2=true/\ys.length<=9223372036854775807/\ys.length*te.bytes<=140737488355328/\
     (ys=[]->K (s.pt (some d) (.d x)))/\(ys≠[]->∀b c,s.bx (b+1000000)=none->ys.length<=c->K (s.nSl d b ys.length c (elC te.size ys.length c [] ys) e s.bx))
   |_=>False) ⟨⟩):=(rfl)
@[go_sem ↓]theorem jjR:type_of% @frz1.eq_1:=nq @frz1.eq_1
@[go_sem ↓]theorem jjQ:type_of% @frz1.eq_2:=nq @frz1.eq_2
@[go_sem ↓]theorem jjI:type_of% @frzs.eq_1:=nq @frzs.eq_1
@[go_sem ↓]theorem jjH:type_of% @frzs.eq_2:=nq @frzs.eq_2
@[go_sem ↓]theorem jjO:type_of% @frzA.eq_1:=nq @frzA.eq_1
@[go_sem ↓]theorem jjN:type_of% @frzA.eq_2:=nq @frzA.eq_2
@[go_sem ↓]theorem jxW:type_of% @lnd1.eq_1:=nq @lnd1.eq_1
@[go_sem ↓]theorem jxV:type_of% @lnd1.eq_2:=nq @lnd1.eq_2
@[go_sem ↓]theorem jxR:type_of% @lnds.eq_1:=nq @lnds.eq_1
@[go_sem ↓]theorem jxQ:type_of% @lnds.eq_2:=nq @lnds.eq_2
@[go_sem ↓]theorem jxT:type_of% @lndA.eq_1:=nq @lndA.eq_1
@[go_sem ↓]theorem jxS:type_of% @lndA.eq_2:=nq @lndA.eq_2
@[go_sem ↓]theorem yvP:type_of% @endK3.eq_2:=nq @endK3.eq_2
@[go_sem ↓]theorem yvO:type_of% @endK3.eq_3:=nq @endK3.eq_3
@[go_sem ↓]theorem ykM:type_of% @outK3.eq_1:=nq @outK3.eq_1
@[go_sem ↓]theorem jjM:type_of% @frzE.eq_1:=nq @frzE.eq_1
@[go_sem ↓]theorem jjL:type_of% @frzE.eq_2:=nq @frzE.eq_2
@[go_sem ↓]theorem jjK:type_of% @frzR.eq_1:=nq @frzR.eq_1
@[go_sem ↓]theorem jjJ:type_of% @frzR.eq_2:=nq @frzR.eq_2
@[go_sem ↓]theorem jkd:type_of% @endK.eq_2:=nq @endK.eq_2
@[go_sem ↓]theorem jkc:type_of% @endK.eq_3:=nq @endK.eq_3
@[go_sem ↓]theorem jqO:type_of% @resK.eq_1:=nq @resK.eq_1
@[go_sem ↓]theorem jqN:type_of% @resK.eq_2:=nq @resK.eq_2
@[go_sem ↓]theorem jqM:type_of% @resK.eq_3:=nq @resK.eq_3
@[go_sem ↓]theorem jxu:type_of% @outK.eq_1:=nq @outK.eq_1
@[go_sem ↓]theorem jxt:type_of% @outK.eq_2:=nq @outK.eq_2
@[go_sem ↓]theorem kjx:type_of% @arK.eq_1:=nq @arK.eq_1
@[go_sem ↓]theorem jj7:type_of% @intK.eq_1:=nq @intK.eq_1
@[go_sem ↓]theorem jj6:type_of% @intK.eq_2:=nq @intK.eq_2
@[go_sem ↓]theorem jj5:type_of% @intK.eq_3:=nq @intK.eq_3
@[go_sem ↓]theorem jj4:type_of% @intK.eq_4:=nq @intK.eq_4
@[go_sem ↓]theorem jj3:type_of% @intK.eq_5:=nq @intK.eq_5
@[go_sem ↓]theorem jj2:type_of% @intK.eq_6:=nq @intK.eq_6
@[go_sem ↓]theorem jj1:type_of% @intK.eq_7:=nq @intK.eq_7
@[go_sem ↓]theorem jj0:type_of% @intK.eq_8:=nq @intK.eq_8
@[go_sem ↓]theorem jjz:type_of% @intK.eq_9:=nq @intK.eq_9
@[go_sem ↓]theorem yv2:type_of% @intK.eq_10:=nq @intK.eq_10
@[go_sem ↓]theorem yv1:type_of% @intK.eq_11:=nq @intK.eq_11
@[go_sem ↓]theorem kzj:type_of% @stK.eq_1:=nq @stK.eq_1
@[go_sem ↓]theorem kzi:type_of% @stK.eq_2:=nq @stK.eq_2
@[go_sem ↓]theorem kzh:type_of% @stK.eq_3:=nq @stK.eq_3
@[go_sem ↓]theorem jkJ:type_of% @binK.eq_1:=nq @binK.eq_1
@[go_sem ↓]theorem jkI:type_of% @binK.eq_2:=nq @binK.eq_2
@[go_sem ↓]theorem jkH:type_of% @binK.eq_3:=nq @binK.eq_3
@[go_sem ↓]theorem jkG:type_of% @binK.eq_4:=nq @binK.eq_4
@[go_sem ↓]theorem kxh:type_of% @hiK.eq_1:=nq @hiK.eq_1
@[go_sem ↓]theorem kxg:type_of% @hiK.eq_2:=nq @hiK.eq_2
@[go_sem ↓]theorem kq3:type_of% @loK.eq_1:=nq @loK.eq_1
@[go_sem ↓]theorem kq2:type_of% @loK.eq_2:=nq @loK.eq_2
@[go_sem ↓]theorem jk8:type_of% @bndK.eq_1:=nq @bndK.eq_1
@[go_sem ↓]theorem jkD:type_of% @bldK.eq_1:=nq @bldK.eq_1
@[go_sem ↓]theorem ykg:type_of% @thenK.eq_1:=nq @thenK.eq_1
@[go_sem ↓]theorem ykf:type_of% @thenK.eq_2:=nq @thenK.eq_2
@[go_sem ↓]theorem yke:type_of% @thenK.eq_3:=nq @thenK.eq_3
@[go_sem ↓]theorem jkC:type_of% @blkK.eq_1:=nq @blkK.eq_1
@[go_sem ↓]theorem jkB:type_of% @blkK.eq_2:=nq @blkK.eq_2
@[go_sem ↓]theorem jkA:type_of% @blkK.eq_3:=nq @blkK.eq_3
@[go_sem ↓]theorem jkf (E:Env)(rs:List ResultVar)(pk:List Nat)(Kr:LV->Bx->Ar1->Prop)(s:S):wxp E rs pk Kr .normal s=evW s (fun s=>qxU (ww2 E rs pk Kr s) ⟨⟩) ⟨⟩:=(rfl)
@[go_sem ↓]theorem jke (E:Env)(rs:List ResultVar)(pk:List Nat)(Kr:LV->Bx->Ar1->Prop)(s:S):wxp E rs pk Kr .ret s=evW s (fun s=>qxU (ww2 E rs pk Kr s) ⟨⟩) ⟨⟩:=(rfl)
@[go_sem ↓]theorem yv7 (s:S)(K:S->Prop):wxe [] s K=evW s K ⟨⟩:=(rfl)
@[go_sem ↓]theorem yxo (r:Nat)(l:List Nat)(s:S)(K:S->Prop):wxe (r::l) s K=sm (s.ar r) fun a=>wxe l {s with bx:=mapf (Box.fz r a.2.2.length (.sl a.1 a.2.2 false)) s.bx,ar:=del r s.ar} K:=(rfl)
theorem qz8 {E:Env}{rs:List ResultVar}{pk:List Nat}{Kr:LV->Bx->Ar1->Prop}{s:S}{w}(fl:List Nat)(h:wxe fl s fun s=>resK E rs s fun xs=>frzR s xs fun ds s'=>okD s'.bx pk/\evW (outB pk s'.bx) (fun ob=>evW (ovS s'.bx ob) (fun o=>qxU (∃es bf,D.les ds es/\qqW o bf/\Kr (one1 es) bf none) ⟨⟩) ⟨⟩) ⟨⟩):qxU (ww2 E rs pk Kr s) w:=⟨fl,h⟩
@[go_sem ↓]theorem jxk (pk:List Nat)(Kp:D->Bx->Prop)(d:D)(s:S):jxl pk Kp d s=(okD s.bx pk/\evW (outB pk s.bx) (fun ob=>evW (ovS s.bx ob) (fun o=>qxU (∃bf,qqW o bf/\Kp d bf) ⟨⟩) ⟨⟩) ⟨⟩):=by
  show(∃bf,okD s.bx pk/\qqW (wwj pk s.bx) bf/\Kp d bf)=(okD s.bx pk/\∃bf,qqW (wwj pk s.bx) bf/\Kp d bf);apply propext;constructor;{rintro⟨bf,h1,h2,h3⟩;exact⟨h1,bf,h2,h3⟩};{rintro⟨h1,bf,h2,h3⟩;exact⟨bf,h1,h2,h3⟩}
@[go_sem]theorem ykZ (bx:Bx):wwn bx []=True:=(rfl)
@[go_sem]theorem yq7 (bx:Bx)(k:Nat)(ks:List Nat):wwn bx (k::ks)=(1000<=k/\k<1000000/\(sm (bx k) fun _=>True)/\wwn bx ks):=(rfl)
structure O3 where
 d:Option Tmp
 op:Op
 g:Option (Nat×Bool)
def o3 (o:Oper):O3:=⟨o.dst,o.op,o.guard⟩
def O3.o (o:O3):Oper:=⟨o.d,o.op,0, "",#[],o.g⟩
def gs3 (ds:List (Option Tmp))(j:Nat):Option Nat:=(ds[j]?).bind id
def qxr (E:Env)(sp:FuncId->Option SpecX)(d:Option Tmp)(op:Op)(s:S)(K:S->Prop)(Kp:D->S->Prop):Prop:=opK E sp ⟨d,op,0, "",#[],none⟩ s K Kp
def qwR (E:Env)(sp:FuncId->Option SpecX)(ds:List (Option Tmp)):List O3->S->(S->Prop)->(D->S->Prop)->Prop
 |[],s,K,_=>K s
 |⟨d,op,none⟩::l,s,K,Kp=>qxr E sp d op s (fun s'=>qwR E sp ds l s' K Kp) Kp
 |⟨dd,op,some (j,want)⟩::l,s,K,Kp=>sm (gs3 ds j) fun d=>sm (s.tm d) fun x=>match x with
   |.d (.bool b)=>(b=want->qxr E sp dd op {s with tm:=put d (.d (.bool want)) s.tm} (fun s'=>qwR E sp ds l s' K Kp) Kp)/\
      (b= !want->dOk s dd/\qwR E sp ds l (S.pt {s with tm:=put d (.d (.bool !want)) s.tm} dd (.tup [])) K Kp)
   |.tup []=>dOk s dd/\qwR E sp ds l (S.pt s dd (.tup [])) K Kp
   |_=>False
theorem zjX (E:Env)(sp:FuncId->Option SpecX)(o:Oper)(s:S)(K:S->Prop)(Kp:D->S->Prop):opK E sp o s K Kp=qxr E sp o.dst o.op s K Kp:=by
 obtain⟨d,op,ty,pos,af,g⟩:=o;rfl
theorem wjf (ops:Array Oper)(j:Nat):gsl ops j=gs3 (ops.toList.map (·.dst)) j:=by
 unfold gsl gs3;simp only[List.getElem?_map,Array.getElem?_toList];cases ops[j]?<;>simp
theorem qwq (E:Env)(sp:FuncId->Option SpecX)(ops:Array Oper):∀(l:List Oper) (s:S) (K:S->Prop) (Kp:D->S->Prop),zxG E sp ops l s K Kp=qwR E sp (ops.toList.map (·.dst)) (l.map o3) s K Kp
 |[],s,K,Kp=>rfl
 |o::l,s,K,Kp=>by
  obtain⟨d,op,ty,pos,af,g⟩:=o;have ih:(fun s'=>zxG E sp ops l s' K Kp)=fun s'=>qwR E sp (ops.toList.map (·.dst)) (l.map o3) s' K Kp:=by{funext s';exact qwq E sp ops l s' K Kp};cases g with|none=>{show opG E sp ops _ s (fun s'=>zxG E sp ops l s' K Kp) Kp=_;rw[ih];rfl}|some p=>{obtain⟨j,want⟩:=p;show opG E sp ops _ s (fun s'=>zxG E sp ops l s' K Kp) Kp=_;rw[ih];unfold opG;simp only[wjf];rfl}
@[go_sem ↓]theorem yxB (E:Env)(sp:FuncId->Option SpecX)(id:Nat)(ops:Array Oper)(s:S)(Q:Ex->S->Prop)(Kp:D->S->Prop):cK E sp (.region id ops false) s Q Kp=
   evW (ops.toList.map (·.dst)) (fun ds=>evW (ops.toList.map o3) (fun l=>qwR E sp ds l s (Q .normal) Kp) ⟨⟩) ⟨⟩:=qwq E sp ops ops.toList s (Q .normal) Kp
@[go_sem]theorem kk2 (d:Option Tmp)(op:Op)(ty:TypeId)(pos:String)(af:Array Edge)(g:Option (Nat×Bool)):o3 ⟨d,op,ty,pos,af,g⟩=⟨d,op,g⟩:=(rfl)
@[go_sem]theorem kkD (ds:List (Option Tmp))(j:Nat):gs3 ds j=(ds[j]?).bind id:=(rfl)
@[go_sem]theorem jkE (x:Tmp):(some (some x)).bind id=some x:=(rfl)
@[go_sem ↓]theorem ykN (E:Env)(sp:FuncId->Option SpecX)(ds:List (Option Tmp))(s:S)(K:S->Prop)(Kp:D->S->Prop):qwR E sp ds [] s K Kp=evW s K ⟨⟩:=(rfl)
@[go_sem ↓]theorem yqu (E:Env)(sp:FuncId->Option SpecX)(ds:List (Option Tmp))(d:Option Tmp)(op:Op)(l:List O3)(s:S)(K:S->Prop)(Kp:D->S->Prop):qwR E sp ds (⟨d,op,none⟩::l) s K Kp=evW s (fun s=>qxr E sp d op s (fun s'=>qwR E sp ds l s' K Kp) Kp) ⟨⟩:=(rfl)
def gK (want:Bool)(x:LV)(p q r:Prop):Prop:=match x with
 |.d (.bool b)=>(b=want->p)/\(b= !want->q)
 |.tup []=>r
 |_=>False
def rdM (E:Env)(sp:FuncId->Option SpecX)(ds:List (Option Tmp))(o:O3)(s:S)(K:S->Prop):Prop:=
 match o with
 |⟨d,op,none⟩=>qkw s op/\qxr E sp d op s K (fun _ _=>False)
 |⟨dd,op,some (j,want)⟩=>sm (gs3 ds j) fun d=>sm (s.tm d) fun x=>gK want x
    (qkw {s with tm:=put d (.d (.bool want)) s.tm} op/\qxr E sp dd op {s with tm:=put d (.d (.bool want)) s.tm} K (fun _ _=>False))
    (dOk s dd/\K (S.pt {s with tm:=put d (.d (.bool !want)) s.tm} dd (.tup []))) (dOk s dd/\K (S.pt s dd (.tup [])))
def rsM (E:Env)(sp:FuncId->Option SpecX)(ds:List (Option Tmp))(l:List O3):List Nat->S->(S->Prop)->Prop
 |[],s,K=>K s
 |i::r,s,K=>sm l[i]? fun o=>zqG E o.d/\rdM E sp ds o s (fun s'=>rsM E sp ds l r s' K)
theorem yqk (E:Env)(sp:FuncId->Option SpecX)(ops:Array Oper)(o:Oper)(s:S)(K:S->Prop):rdG E sp ops o s K=rdM E sp (ops.toList.map (·.dst)) (o3 o) s K:=by
 obtain⟨d,op,ty,pos,af,g⟩:=o;cases g with|none=>{rfl}|some p=>{obtain⟨j,want⟩:=p;unfold rdG;simp only[wjf];rfl}
theorem zjK (E:Env)(sp:FuncId->Option SpecX)(ops:Array Oper)(K:S->Prop):∀(r:List Nat) (s:S),rsK E sp ops r s K=rsM E sp (ops.toList.map (·.dst)) (ops.toList.map o3) r s K
 |[],s=>rfl
 |i::r,s=>by
  rw[rsK,rsM];have:(fun s'=>rsK E sp ops r s' K)=fun s'=>rsM E sp (ops.toList.map (·.dst)) (ops.toList.map o3) r s' K:=by{funext s';exact zjK E sp ops K r s'};rw[this];cases h:ops[i]? with|none=>{have:(ops.toList.map o3)[i]?=none:=by{simp[h]};rw[this,qxM,qxM]}|some o=>{have:(ops.toList.map o3)[i]?=some (o3 o):=by{simp[h]};rw[this,qxL,qxL,yqk];try rfl}
mutual
def qqB (E:Env)(sp:FuncId->Option SpecX)(ds:List (Option Tmp))(l:List O3):Plan->S->(S->Prop)->(D->S->Prop)->Prop
 |.done,s,K,_=>K s
 |.take i p,s,K,Kp=>sm l[i]? fun o=>zqG E o.d/\qwR E sp ds [o] s (fun s'=>qqB E sp ds l p s' K Kp) Kp
 |.rd i p,s,K,Kp=>rsM E sp ds l [i] s fun s'=>qqB E sp ds l p s' K Kp
 |.all ps,s,K,Kp=>qjN E sp ds l ps s K Kp
def qjN (E:Env)(sp:FuncId->Option SpecX)(ds:List (Option Tmp))(l:List O3):Plans->S->(S->Prop)->(D->S->Prop)->Prop
 |.nil,_,_,_=>True
 |.cons i p ps,s,K,Kp=>(sm l[i]? fun o=>qwR E sp ds [o] s (fun s'=>qqB E sp ds l p s' K Kp) Kp)/\qjN E sp ds l ps s K Kp
end
theorem zw0 (E:Env)(sp:FuncId->Option SpecX)(ops:Array Oper)(i:Nat)(s:S)(K:S->Prop)(Kp:D->S->Prop):wkB E sp ops i s K Kp=sm (ops.toList.map o3)[i]? fun o=>qwR E sp (ops.toList.map (·.dst)) [o] s K Kp:=by
 unfold wkB;cases h:ops[i]? with|none=>{have:(ops.toList.map o3)[i]?=none:=by{simp[h]};rw[this,qxM]}|some o=>{have:(ops.toList.map o3)[i]?=some (o3 o):=by{simp[h]};rw[this,qxL];exact qwq E sp ops [o] s K Kp}
mutual
theorem qxH (E:Env)(sp:FuncId->Option SpecX)(ops:Array Oper):∀(p:Plan) (s:S) (K:S->Prop) (Kp:D->S->Prop),qx3 E sp ops p s K Kp=qqB E sp (ops.toList.map (·.dst)) (ops.toList.map o3) p s K Kp
 |.done,s,K,Kp=>by rw[qx3,qqB]
 |.take i p,s,K,Kp=>by
   rw[qx3,qqB,zw0];have:(fun s'=>qx3 E sp ops p s' K Kp)=fun s'=>qqB E sp (ops.toList.map (·.dst)) (ops.toList.map o3) p s' K Kp:=by{funext s';exact qxH E sp ops p s' K Kp};rw[this];cases h:ops[i]? with|none=>{have:(ops.toList.map o3)[i]?=none:=by{simp[h]};rw[this,qxM,qxM,qxM,false_and]}|some o=>{have:(ops.toList.map o3)[i]?=some (o3 o):=by{simp[h]};rw[this,qxL,qxL,qxL];rfl}
 |.rd i p,s,K,Kp=>by
   rw[qx3,qqB,zjK];have:(fun s'=>qx3 E sp ops p s' K Kp)=fun s'=>qqB E sp (ops.toList.map (·.dst)) (ops.toList.map o3) p s' K Kp:=by{funext s';exact qxH E sp ops p s' K Kp};rw[this]
 |.all ps,s,K,Kp=>by rw[qx3,qqB];exact zxa E sp ops ps s K Kp
theorem zxa (E:Env)(sp:FuncId->Option SpecX)(ops:Array Oper):∀(ps:Plans) (s:S) (K:S->Prop) (Kp:D->S->Prop),qwp E sp ops ps s K Kp=qjN E sp (ops.toList.map (·.dst)) (ops.toList.map o3) ps s K Kp
 |.nil,s,K,Kp=>by rw[qwp,qjN]
 |.cons i p ps,s,K,Kp=>by
   rw[qwp,qjN,zw0,zxa E sp ops ps s K Kp];have:(fun s'=>qx3 E sp ops p s' K Kp)=fun s'=>qqB E sp (ops.toList.map (·.dst)) (ops.toList.map o3) p s' K Kp:=by{funext s';exact qxH E sp ops p s' K Kp};rw[this]
end
@[go_sem ↓]theorem wwg (E:Env)(sp:FuncId->Option SpecX)(ds:List (Option Tmp))(l:List O3)(s:S)(K:S->Prop)(Kp:D->S->Prop):qqB E sp ds l .done s K Kp=evW s K ⟨⟩:=by rw[qqB];exact Eq.refl _
@[go_sem ↓]theorem wwf (E:Env)(sp:FuncId->Option SpecX)(ds:List (Option Tmp))(l:List O3)(i:Nat)(p:Plan)(s:S)(K:S->Prop)(Kp:D->S->Prop):qqB E sp ds l (.take i p) s K Kp=sm l[i]? fun o=>zqG E o.d/\qwR E sp ds [o] s (fun s'=>qqB E sp ds l p s' K Kp) Kp:=by rw[qqB]
@[go_sem]theorem yzo (E:Env)(d:Nat):zqG E (some d)=(E.vis d=true):=(rfl)
@[go_sem]theorem yzp (E:Env):zqG E none=True:=(rfl)
@[go_sem ↓]theorem yk9 (E:Env)(sp:FuncId->Option SpecX)(ds:List (Option Tmp))(l:List O3)(i:Nat)(p:Plan)(s:S)(K:S->Prop)(Kp:D->S->Prop):qqB E sp ds l (.rd i p) s K Kp=rsM E sp ds l [i] s fun s'=>qqB E sp ds l p s' K Kp:=by rw[qqB]
@[go_sem ↓]theorem yqm (E:Env)(sp:FuncId->Option SpecX)(ds:List (Option Tmp))(l:List O3)(ps:Plans)(s:S)(K:S->Prop)(Kp:D->S->Prop):qqB E sp ds l (.all ps) s K Kp=qjN E sp ds l ps s K Kp:=by rw[qqB]
@[go_sem ↓]theorem wwe (E:Env)(sp:FuncId->Option SpecX)(ds:List (Option Tmp))(l:List O3)(s:S)(K:S->Prop)(Kp:D->S->Prop):qjN E sp ds l .nil s K Kp=True:=by rw[qjN]
@[go_sem ↓]theorem wkw (E:Env)(sp:FuncId->Option SpecX)(ds:List (Option Tmp))(l:List O3)(i:Nat)(p:Plan)(ps:Plans)(s:S)(K:S->Prop)(Kp:D->S->Prop):qjN E sp ds l (.cons i p ps) s K Kp=((sm l[i]? fun o=>qwR E sp ds [o] s (fun s'=>qqB E sp ds l p s' K Kp) Kp)/\qjN E sp ds l ps s K Kp):=by rw[qjN]
@[go_sem ↓]theorem jk4 (E:Env)(sp:FuncId->Option SpecX)(id:Nat)(ops:Array Oper)(s:S)(Q:Ex->S->Prop)(Kp:D->S->Prop):cK E sp (.region id ops true) s Q Kp=evW s (fun s=>qxU (qkx E sp ops s (Q .normal) Kp) ⟨⟩) ⟨⟩:=(rfl)
@[go_sem ↓]theorem jqG (E:Env)(sp:FuncId->Option SpecX)(ds:List (Option Tmp))(l:List O3)(s:S)(K:S->Prop):rsM E sp ds l [] s K=evW s K ⟨⟩:=by rw[rsM];exact Eq.refl _
@[go_sem ↓]theorem yky (E:Env)(sp:FuncId->Option SpecX)(ds:List (Option Tmp))(l:List O3)(i:Nat)(r:List Nat)(s:S)(K:S->Prop):rsM E sp ds l (i::r) s K=sm l[i]? fun o=>zqG E o.d/\rdM E sp ds o s (fun s'=>rsM E sp ds l r s' K):=by rw[rsM]
@[go_sem ↓]theorem yk6 (E:Env)(sp:FuncId->Option SpecX)(ds:List (Option Tmp))(d:Option Tmp)(op:Op)(s:S)(K:S->Prop):rdM E sp ds ⟨d,op,none⟩ s K=evW s (fun s=>qkw s op/\qxr E sp d op s K (fun _ _=>False)) ⟨⟩:=(rfl)
@[go_sem ↓]theorem yk5 (E:Env)(sp:FuncId->Option SpecX)(ds:List (Option Tmp))(dd:Option Tmp)(op:Op)(j:Nat)(want:Bool)(s:S)(K:S->Prop):rdM E sp ds ⟨dd,op,some (j,want)⟩ s K=evW s (fun s=>sm (gs3 ds j) fun d=>sm (s.tm d) fun x=>gK want x
    (qkw {s with tm:=put d (.d (.bool want)) s.tm} op/\qxr E sp dd op {s with tm:=put d (.d (.bool want)) s.tm} K (fun _ _=>False))
    (dOk s dd/\K (S.pt {s with tm:=put d (.d (.bool !want)) s.tm} dd (.tup []))) (dOk s dd/\K (S.pt s dd (.tup [])))) ⟨⟩:=(rfl)
@[go_sem]theorem yz1 (s:S)(c x y:Operand):qkw s (.pick c x y)=True:=(rfl)
@[go_sem]theorem yz0 (s:S)(o:UnOp)(t:TypeId)(x:Operand):qkw s (.unOp o t x)=True:=(rfl)
@[go_sem]theorem wxA (s:S)(x:Operand)(i:Nat):qkw s (.extract x i)=True:=(rfl)
@[go_sem]theorem wvZ (s:S)(o:BinOp)(t t':TypeId)(x y:Operand):qkw s (.binOp o t x y t')=sm (s.ev x) fun u=>sm (s.ev y) fun v=>plV u v:=(rfl)
@[go_sem]theorem yjY (s:S)(x:Operand)(t:TypeId):qkw s (.call ⟨.builtin .len,#[x],#[t]⟩)=sm (s.ev x) fun u=>wqS u:=by
  unfold qkw sm;simp
@[go_sem]theorem jxa (k k':IntKind)(a b:Int):plV (.d (.int k a)) (.d (.int k' b))=True:=(rfl)
@[go_sem]theorem kzL (a b:Bs):plV (.d (.st a)) (.d (.st b))=True:=(rfl)
@[go_sem]theorem ykB (a b:Bool):plV (.d (.bool a)) (.d (.bool b))=True:=(rfl)
@[go_sem]theorem jxX (a:Bs):wqS (.d (.st a))=True:=(rfl)
@[go_sem]theorem jxY (z:Nat)(xs:List D)(f:Bool):wqS (.d (.sl z xs f))=True:=(rfl)
@[go_sem]theorem yvu (a:Option Addr)(n c:Nat):wqS (.d (.imm (.slice a n c)))=True:=(rfl)
@[go_sem]theorem jxZ (r z n:Nat):wqS (.os r z n)=True:=(rfl)
def jjx:LV->Prop
 |.ep _ _=>True
 |_=>False
@[go_sem]theorem jjw (x:D)(o:Nat):jjx (.ep x o)=True:=(rfl)
@[go_sem]theorem yz3 (s:S)(t:TypeId)(a:Tmp):qkw s (.load t (.tmp a))=sm (s.tm a) jjx:=by
  unfold qkw jjx;first|rfl|(congr;done)|(congr;funext u;cases u<;>rfl)
@[go_sem]theorem yz2 (s:S)(x:Operand):qkw s (.move x)=True:=(rfl)
@[go_sem]theorem wjB (s:S)(x:Operand):qkw s (.assign x)=True:=(rfl)
@[go_sem]theorem wz9 (s:S)(t:TypeId)(x:Operand)(f:Nat):qkw s (.fieldAddr t x f)=True:=(rfl)
@[go_sem]theorem wzN (s:S)(x:Operand):qkw s (.nilCheck x)=True:=(rfl)
@[go_sem]theorem wz8 (s:S)(t:TypeId)(x i:Operand):qkw s (.indexAddr t x i)=True:=(rfl)
@[go_sem]theorem wzO (s:S)(f:Fn)(x y:Array Operand):qkw s (.makeFunc f x y)=True:=(rfl)
@[go_sem ↓]theorem yv5 (s:S)(K:S->Prop):zjr [] s K=evW s K ⟨⟩:=(rfl)
@[go_sem ↓]theorem yxn (k:Nat)(ks:List Nat)(s:S)(K:S->Prop):zjr (k::ks) s K=sm (s.bx k) fun b=>frzs s b.cells fun _ s1=>evW s1 (fun s1=>sm (s1.bx k) fun b1=>b1.ty<1000000/\sm (allD b1.cells) fun ds=>evW (s1.fzb k ds) (fun s=>zjr ks s K) ⟨⟩) ⟨⟩:=(rfl)
theorem qzm {E:Env}{sp:FuncId->Option SpecX}{ops:Array Oper}{s:S}{K:S->Prop}{Kp:D->S->Prop}{w:Ph (qkx E sp ops s K Kp)}(ks rs:List Nat)(p:Plan)
  (h:zjr ks s fun s=>evW (ops.toList.map (·.dst)) (fun ds=>evW (ops.toList.map o3) (fun l=>rsM E sp ds l rs s fun s=>qqB E sp ds l p s K Kp) ⟨⟩) ⟨⟩)(h1:wxT ops p rs ops.size (Array.replicate ops.size false)=true:=by kernel_rfl)(h2:Region.noSelect ops=true:=by kernel_rfl):qxU (qkx E sp ops s K Kp) w:=by
 refine .inl ⟨ks,rs,p,h1,h2,.inl ?_⟩;have e:(fun s=>qqB E sp (ops.toList.map (·.dst)) (ops.toList.map o3) p s K Kp)=fun s=>qx3 E sp ops p s K Kp:=by{funext s;exact(qxH E sp ops p s K Kp).symm};have e2:(fun s=>evW (ops.toList.map (·.dst)) (fun ds=>evW (ops.toList.map o3) (fun l=>rsM E sp ds l rs s fun s=>qqB E sp ds l p s K Kp) ⟨⟩) ⟨⟩)=fun s=>rsK E sp ops rs s fun s=>qx3 E sp ops p s K Kp:=by{funext s;rw[<-e,zjK];rfl};rw[<-e2];exact h
theorem qkq {E:Env}{sp:FuncId->Option SpecX}{ops:Array Oper}{s:S}{K:S->Prop}{Kp:D->S->Prop}{w:Ph (qkx E sp ops s K Kp)}(ks rs:List Nat)(p:Plan)(s0:S)
  (h:zjr ks s fun s=>evW (ops.toList.map (·.dst)) (fun ds=>evW (ops.toList.map o3) (fun l=>rsM E sp ds l rs s fun s=>qqB E sp ds l p s (fun s'=>evW s' (fun s'=>qxU (Sub s' s0) ⟨⟩) ⟨⟩) Kp) ⟨⟩) ⟨⟩)(h0:K s0)(h1:wxT ops p rs ops.size (Array.replicate ops.size false)=true:=by kernel_rfl)(h2:Region.noSelect ops=true:=by kernel_rfl):qxU (qkx E sp ops s K Kp) w:=by
 refine .inl ⟨ks,rs,p,h1,h2,.inr ⟨fun s'=>Sub s' s0,fun _ h=>⟨s0,h0,h⟩,?_⟩⟩;have e:(fun s=>qqB E sp (ops.toList.map (·.dst)) (ops.toList.map o3) p s (fun s'=>evW s' (fun s'=>qxU (Sub s' s0) ⟨⟩) ⟨⟩) Kp)=fun s=>qx3 E sp ops p s (fun s'=>Sub s' s0) Kp:=by{funext s;exact(qxH E sp ops p s (fun s'=>evW s' (fun s'=>qxU (Sub s' s0) ⟨⟩) ⟨⟩) Kp).symm};have e2:(fun s=>evW (ops.toList.map (·.dst)) (fun ds=>evW (ops.toList.map o3) (fun l=>rsM E sp ds l rs s fun s=>qqB E sp ds l p s (fun s'=>evW s' (fun s'=>qxU (Sub s' s0) ⟨⟩) ⟨⟩) Kp) ⟨⟩) ⟨⟩)=fun s=>rsK E sp ops rs s fun s=>qx3 E sp ops p s (fun s'=>Sub s' s0) Kp:=by{funext s;rw[<-e,zjK];rfl};rw[<-e2];exact h
theorem qz9 {E:Env}{sp:FuncId->Option SpecX}{ops:Array Oper}{s:S}{K:S->Prop}{Kp:D->S->Prop}{w:Ph (qkx E sp ops s K Kp)}(p:Plan)
  (h:evW (ops.toList.map (·.dst)) (fun ds=>evW (ops.toList.map o3) (fun l=>qqB E sp ds l p s K Kp) ⟨⟩) ⟨⟩)(h1:okP ops p ops.size (Array.replicate ops.size false)=true:=by kernel_rfl)(h2:Region.noSelect ops=true:=by kernel_rfl):qxU (qkx E sp ops s K Kp) w:=
 .inl ⟨[],[],p,h1,h2,.inl (show qx3 E sp ops p s K Kp from(qxH E sp ops p s K Kp).symm▸h)⟩
theorem qxx {E:Env}{sp:FuncId->Option SpecX}{ops:Array Oper}{s:S}{K:S->Prop}{Kp:D->S->Prop}{w:Ph (qkx E sp ops s K Kp)}(p:Plan)(s0:S)
  (h:evW (ops.toList.map (·.dst)) (fun ds=>evW (ops.toList.map o3) (fun l=>qqB E sp ds l p s (fun s'=>evW s' (fun s'=>qxU (Sub s' s0) ⟨⟩) ⟨⟩) Kp) ⟨⟩) ⟨⟩)(h0:K s0)(h1:okP ops p ops.size (Array.replicate ops.size false)=true:=by kernel_rfl)(h2:Region.noSelect ops=true:=by kernel_rfl):qxU (qkx E sp ops s K Kp) w:=
 .inl ⟨[],[],p,h1,h2,.inr ⟨fun s'=>Sub s' s0,fun _ h=>⟨s0,h0,h⟩,(show qx3 E sp ops p s (fun s'=>Sub s' s0) Kp from(qxH E sp ops p s (fun s'=>evW s' (fun s'=>qxU (Sub s' s0) ⟨⟩) ⟨⟩) Kp).symm▸h)⟩⟩
theorem qka {E:Env}{sp:FuncId->Option SpecX}{ops:Array Oper}{s:S}{K:S->Prop}{Kp:D->S->Prop}{w:Ph (qkx E sp ops s K Kp)}(p:Plan){α:Type}(I:α->S)
  (h:evW (ops.toList.map (·.dst)) (fun ds=>evW (ops.toList.map o3) (fun l=>qqB E sp ds l p s (fun s'=>evW s' (fun s'=>qxU (∃i,Sub s' (I i)) ⟨⟩) ⟨⟩) Kp) ⟨⟩) ⟨⟩)(h0:∀i,K (I i))(h1:okP ops p ops.size (Array.replicate ops.size false)=true:=by kernel_rfl)(h2:Region.noSelect ops=true:=by kernel_rfl):qxU (qkx E sp ops s K Kp) w:=
 .inl ⟨[],[],p,h1,h2,.inr ⟨fun s'=>∃i,Sub s' (I i),fun _ ⟨i,h⟩=>⟨I i,h0 i,h⟩,(show qx3 E sp ops p s (fun s'=>∃i,Sub s' (I i)) Kp from(qxH E sp ops p s (fun s'=>evW s' (fun s'=>qxU (∃i,Sub s' (I i)) ⟨⟩) ⟨⟩) Kp).symm▸h)⟩⟩
theorem qz5 {E:Env}{sp:FuncId->Option SpecX}{ops:Array Oper}{s:S}{K:S->Prop}{Kp:D->S->Prop}{w:Ph (qkx E sp ops s K Kp)}
  (h:evW (ops.toList.map (·.dst)) (fun ds=>evW (ops.toList.map o3) (fun l=>qwR E sp ds l s K (fun _ _=>False)) ⟨⟩) ⟨⟩)(h1:(Region.lexB .any ops&&ops.toList.all fun o=>zjp o.op)=true:=by kernel_rfl):qxU (qkx E sp ops s K Kp) w:=
 .inr (.inl ⟨h1,(qwq E sp ops ops.toList s K (fun _ _=>False)).symm▸h⟩)
def rhM (E:Env)(sp:FuncId->Option SpecX)(ks:List Nat)(o:O3)(s:S)(K:S->Prop):Prop:=zqG E o.d/\tkH s ks o.op/\qxr E sp o.d o.op s K (fun _ _=>False)
def wzA (E:Env)(sp:FuncId->Option SpecX)(ks:List Nat)(l:List O3):List Nat->S->(S->Prop)->Prop
 |[],s,K=>K s
 |i::r,s,K=>sm l[i]? fun o=>rhM E sp ks o s (fun s'=>wzA E sp ks l r s' K)
def khM (E:Env)(sp:FuncId->Option SpecX)(ks:List Nat)(o:O3)(s:S)(K:S->Prop):Prop:=o.g=none/\qjS s ks o.op/\qxr E sp o.d o.op s K (fun _ _=>False)
mutual
def qxI (E:Env)(sp:FuncId->Option SpecX)(ks:List Nat)(l:List O3):Plan->S->(S->Prop)->Prop
 |.done,s,K=>K s
 |.all ps,s,K=>qx2 E sp ks l ps s K
 |.take _ _,_,_=>False
 |.rd _ _,_,_=>False
def qx2 (E:Env)(sp:FuncId->Option SpecX)(ks:List Nat)(l:List O3):Plans->S->(S->Prop)->Prop
 |.nil,_,_=>True
 |.cons i p ps,s,K=>(sm l[i]? fun o=>khM E sp ks o s (fun s'=>qxI E sp ks l p s' K))/\qx2 E sp ks l ps s K
end
theorem zwa (E:Env)(sp:FuncId->Option SpecX)(ops:Array Oper)(ks:List Nat)(K:S->Prop):∀(r:List Nat) (s:S),wqv E sp ops ks r s K=wzA E sp ks (ops.toList.map o3) r s K
 |[],s=>rfl
 |i::r,s=>by
  rw[wqv,wzA];have:(fun s'=>wqv E sp ops ks r s' K)=fun s'=>wzA E sp ks (ops.toList.map o3) r s' K:=by{funext s';exact zwa E sp ops ks K r s'};rw[this];cases h:ops[i]? with|none=>{have:(ops.toList.map o3)[i]?=none:=by{simp[h]};rw[this,qxM,qxM]}|some o=>{have:(ops.toList.map o3)[i]?=some (o3 o):=by{simp[h]};rw[this,qxL,qxL,zjX];rfl}
mutual
theorem zxc (E:Env)(sp:FuncId->Option SpecX)(ops:Array Oper)(ks:List Nat)(K:S->Prop):∀(p:Plan) (s:S),qjO E sp ops ks p s K=qxI E sp ks (ops.toList.map o3) p s K
 |.done,s=>by rw[qjO,qxI]
 |.take _ _,s=>by rw[qjO,qxI]
 |.rd _ _,s=>by rw[qjO,qxI]
 |.all ps,s=>by rw[qjO,qxI];exact zzl E sp ops ks K ps s
theorem zzl (E:Env)(sp:FuncId->Option SpecX)(ops:Array Oper)(ks:List Nat)(K:S->Prop):∀(ps:Plans) (s:S),qk7 E sp ops ks ps s K=qx2 E sp ks (ops.toList.map o3) ps s K
 |.nil,s=>by rw[qk7,qx2]
 |.cons i p ps,s=>by
   rw[qk7,qx2,zzl E sp ops ks K ps s];have:(fun s'=>qjO E sp ops ks p s' K)=fun s'=>qxI E sp ks (ops.toList.map o3) p s' K:=by{funext s';exact zxc E sp ops ks K p s'};rw[this];congr 1;cases h:ops[i]? with|none=>{have:(ops.toList.map o3)[i]?=none:=by{simp[h]};rw[this,qxM,qxM]}|some o=>{have:(ops.toList.map o3)[i]?=some (o3 o):=by{simp[h]};rw[this,qxL,qxL,zjX];rfl}
end
@[go_sem ↓]theorem ykz (E:Env)(sp:FuncId->Option SpecX)(ks:List Nat)(l:List O3)(s:S)(K:S->Prop):wzA E sp ks l [] s K=evW s K ⟨⟩:=by rw[wzA];exact Eq.refl _
@[go_sem ↓]theorem yqb (E:Env)(sp:FuncId->Option SpecX)(ks:List Nat)(l:List O3)(i:Nat)(r:List Nat)(s:S)(K:S->Prop):wzA E sp ks l (i::r) s K=sm l[i]? fun o=>rhM E sp ks o s (fun s'=>wzA E sp ks l r s' K):=by rw[wzA]
@[go_sem ↓]theorem kz9 (E:Env)(sp:FuncId->Option SpecX)(ks:List Nat)(d:Option Tmp)(op:Op)(g:Option (Nat×Bool))(s:S)(K:S->Prop):rhM E sp ks ⟨d,op,g⟩ s K=evW s (fun s=>zqG E d/\tkH s ks op/\qxr E sp d op s K (fun _ _=>False)) ⟨⟩:=(rfl)
@[go_sem ↓]theorem kqT (E:Env)(sp:FuncId->Option SpecX)(ks:List Nat)(d:Option Tmp)(op:Op)(s:S)(K:S->Prop):khM E sp ks ⟨d,op,none⟩ s K=evW s (fun s=>qjS s ks op/\qxr E sp d op s K (fun _ _=>False)) ⟨⟩:=by
  show((none:Option (Nat×Bool))=none/\_)=_;rw[eq_self,true_and];rfl
@[go_sem ↓]theorem wk1 (E:Env)(sp:FuncId->Option SpecX)(ks:List Nat)(l:List O3)(s:S)(K:S->Prop):qxI E sp ks l .done s K=evW s K ⟨⟩:=by rw[qxI];exact Eq.refl _
@[go_sem ↓]theorem wwh (E:Env)(sp:FuncId->Option SpecX)(ks:List Nat)(l:List O3)(ps:Plans)(s:S)(K:S->Prop):qxI E sp ks l (.all ps) s K=qx2 E sp ks l ps s K:=by rw[qxI]
@[go_sem ↓]theorem wk0 (E:Env)(sp:FuncId->Option SpecX)(ks:List Nat)(l:List O3)(s:S)(K:S->Prop):qx2 E sp ks l .nil s K=True:=by rw[qx2]
@[go_sem ↓]theorem wxM (E:Env)(sp:FuncId->Option SpecX)(ks:List Nat)(l:List O3)(i:Nat)(p:Plan)(ps:Plans)(s:S)(K:S->Prop):qx2 E sp ks l (.cons i p ps) s K=((sm l[i]? fun o=>khM E sp ks o s (fun s'=>qxI E sp ks l p s' K))/\qx2 E sp ks l ps s K):=by rw[qx2]
@[go_sem]theorem kze (ks:List Nat)(x:D)(o:Nat):tkL ks (.ep x o)=True:=(rfl)
@[go_sem]theorem kzf (ks:List Nat)(k o:Nat):tkL ks (.bp k o)=(ks.contains k=true):=(rfl)
@[go_sem]theorem kzd (ks:List Nat)(b o:Nat):tkL ks (.d (.imm (.pointer (some ⟨b,o,none⟩))))=(ks.contains (b+1000000)=true):=(rfl)
@[go_sem]theorem ykc (s:S)(ks:List Nat)(t:TypeId)(a:Tmp):tkH s ks (.load t (.tmp a))=sm (s.tm a) (tkL ks):=(rfl)
@[go_sem]theorem ykb (s:S)(ks:List Nat)(x:Operand):tkH s ks (.move x)=qkw s (.move x):=(rfl)
@[go_sem]theorem wwa (s:S)(ks:List Nat)(x:Operand):tkH s ks (.assign x)=qkw s (.assign x):=(rfl)
@[go_sem]theorem wzQ (s:S)(ks:List Nat)(t:TypeId)(x:Operand)(f:Nat):tkH s ks (.fieldAddr t x f)=qkw s (.fieldAddr t x f):=(rfl)
@[go_sem]theorem wxB (s:S)(ks:List Nat)(x:Operand):tkH s ks (.nilCheck x)=qkw s (.nilCheck x):=(rfl)
@[go_sem]theorem wzP (s:S)(ks:List Nat)(t:TypeId)(x i:Operand):tkH s ks (.indexAddr t x i)=qkw s (.indexAddr t x i):=(rfl)
@[go_sem]theorem wjC (s:S)(ks:List Nat)(x:Operand)(i:Nat):tkH s ks (.extract x i)=qkw s (.extract x i):=(rfl)
@[go_sem]theorem yjZ (s:S)(ks:List Nat)(o:UnOp)(t:TypeId)(x:Operand):tkH s ks (.unOp o t x)=qkw s (.unOp o t x):=(rfl)
@[go_sem]theorem yz4 (s:S)(ks:List Nat)(o:BinOp)(t t':TypeId)(x y:Operand):tkH s ks (.binOp o t x y t')=qkw s (.binOp o t x y t'):=(rfl)
@[go_sem]theorem yka (s:S)(ks:List Nat)(c x y:Operand):tkH s ks (.pick c x y)=qkw s (.pick c x y):=(rfl)
@[go_sem]theorem ykd (s:S)(ks:List Nat)(c:Call):tkH s ks (.call c)=qkw s (.call c):=(rfl)
@[go_sem]theorem ww1 (s:S):qxJ s []=True:=(rfl)
@[go_sem]theorem wvn (s:S)(k:Nat)(ks:List Nat):qxJ s (k::ks)=((sm (s.bx k) fun b=>b.ty<1000000)/\qxJ s ks):=(rfl)
def kpP (ks:List Nat):LV->Prop
 |.bp k _=>ks.contains k=false
 |_=>False
@[go_sem]theorem kqR (ks:List Nat)(k o:Nat):kpP ks (.bp k o)=(ks.contains k=false):=(rfl)
@[go_sem]theorem wjd (s:S)(ks:List Nat)(t:TypeId):qjS s ks (.alloc t)=(qxJ s ks/\True):=(rfl)
@[go_sem]theorem wjb (s:S)(ks:List Nat)(t:TypeId)(p:Tmp)(x:Operand):qjS s ks (.store t (.tmp p) x)=(qxJ s ks/\sm (s.tm p) (kpP ks)):=by
  unfold qjS kpP;first|rfl|(congr;done)|(congr;funext u;cases u<;>rfl)
@[go_sem]theorem wjc (s:S)(ks:List Nat)(t:TypeId)(ps:Array (Nat×Operand)):qjS s ks (.build t ps)=(qxJ s ks/\true=true):=(rfl)
@[go_sem]theorem zvx (s:S)(ks:List Nat)(t:TypeId)(x:Operand)(f:Nat):qjS s ks (.fieldAddr t x f)=(qxJ s ks/\true=true):=(rfl)
@[go_sem]theorem wve (s:S)(ks:List Nat)(x:Operand):qjS s ks (.move x)=(qxJ s ks/\true=true):=(rfl)
@[go_sem]theorem wqX (s:S)(ks:List Nat)(x:Operand):qjS s ks (.assign x)=(qxJ s ks/\true=true):=(rfl)
theorem qzO {E:Env}{sp:FuncId->Option SpecX}{ops:Array Oper}{s:S}{K:S->Prop}{Kp:D->S->Prop}{w:Ph (qkx E sp ops s K Kp)}(fs ks:List Nat)(rs:List Nat)(p:Plan)(s0:S)(hks:∀k∈ks,1000<=k)
  (h:zjr fs s fun s=>qxJ s ks/\evW (ops.toList.map o3) (fun l=>wzA E sp ks l rs s fun s1=>qxI E sp ks l p s1 (fun s'=>evW s' (fun s'=>qxU (Sub s' s0) ⟨⟩) ⟨⟩)) ⟨⟩)(h0:K s0)(h1:zw2 ops p rs ops.size (Array.replicate ops.size false)=true:=by kernel_rfl)(h2:Region.noSelect ops=true:=by kernel_rfl):qxU (qkx E sp ops s K Kp) w:=by
 refine .inr (.inr ⟨fs,ks,rs,p,fun s'=>Sub s' s0,fun _ h=>⟨s0,h0,h⟩,h1,h2,hks,qw4 (fun s h=>⟨h.1,?_⟩) h⟩);have e:(fun s1=>qxI E sp ks (ops.toList.map o3) p s1 (fun s'=>evW s' (fun s'=>qxU (Sub s' s0) ⟨⟩) ⟨⟩))=fun s1=>qjO E sp ops ks p s1 (fun s'=>Sub s' s0):=by{funext s1;rw[zxc];rfl};have h:=h.2;rw[zwa,<-e];exact h
@[go_sem ↓]theorem wq8 (E:Env)(sp:FuncId->Option SpecX)(s:S)(K:S->Prop)(Kp:D->S->Prop)(t:TypeId)(l c:Operand)(d:Option Tmp):qxr E sp d (.makeSlice t l c) s K Kp=sm (s.ev l) fun l=>sm (s.ev c) fun c=>yqD E s d t l c K:=(rfl)
@[go_sem ↓]theorem jxM (E:Env)(s:S)(d:Nat)(t:TypeId)(k k':IntKind)(n m:Int)(K:S->Prop):yqD E s (some d) t (.d (.int k n)) (.d (.int k' m)) K=sm (E.ti t) fun ti=>match ti.desc with
  |.sli e=>sm (E.ti e) fun te=>n=m/\0<=n/\n<=16777216/\0<te.size/\te.bytes<=16777216/\e<1000000/\d<s.n/\(cvD te.zero).el te.size=true/\
     (n=0->K (s.pt (some d) (.d (.sl te.size [] true))))/\(n≠0->K (s.na d te.size e (List.replicate n.toNat (cvD te.zero))))
  |_=>False:=by
  unfold yqD;congr;funext ti;cases ti.desc<;>exact Eq.refl _
@[go_sem ↓]theorem ykT (E:Env)(sp:FuncId->Option SpecX)(s:S)(K:S->Prop)(Kp:D->S->Prop)(t:TypeId)(x u v:Operand)(d:Option Tmp):qxr E sp d (.slice t x none (some u) (some v)) s K Kp=sm (s.ev x) fun x=>sm (s.ev u) fun u=>sm (s.ev v) fun v=>wzG E t x u v fun x=>dOk s d/\K (s.pt d x):=(rfl)
@[go_sem ↓]theorem jkx (E:Env)(t:TypeId)(z:Nat)(xs:List D)(f:Bool)(k k':IntKind)(n m:Int)(K:LV->Prop):wzG E t (.d (.sl z xs f)) (.d (.int k n)) (.d (.int k' m)) K=(n=m/\sm (E.ti t) fun ti=>match ti.desc with
  |.sli e=>sm (E.ti e) fun te=>sm (D.asl te.size (.sl z xs f)) fun q=>n=q.1.length/\K (.d (.sl te.size q.1 true))
  |_=>False):=by
  unfold wzG;congr
@[go_sem ↓]theorem yvY (E:Env)(t:TypeId)(k k':IntKind)(n m:Int)(K:LV->Prop):wzG E t (.d (.imm (.slice none 0 0))) (.d (.int k n)) (.d (.int k' m)) K=(n=m/\sm (E.ti t) fun ti=>match ti.desc with
  |.sli e=>sm (E.ti e) fun te=>sm (D.asl te.size (.imm (.slice none 0 0))) fun q=>n=q.1.length/\K (.d (.sl te.size q.1 true))
  |_=>False):=by
  unfold wzG;congr
@[go_sem ↓]theorem jkw (E:Env)(t:TypeId)(b o l c:Nat)(k k':IntKind)(n m:Int)(K:LV->Prop):wzG E t (.d (.imm (.slice (some ⟨b,o,none⟩) l c))) (.d (.int k n)) (.d (.int k' m)) K=(n=m/\sm (E.ti t) fun ti=>match ti.desc with
  |.sli e=>sm (E.ti e) fun te=>n=l/\0<l/\l<=c/\K (.d (.imm (.slice (some ⟨b,o,none⟩) l l)))
  |_=>False):=by
  unfold wzG;congr
@[go_sem]theorem kju (z b o n c:Nat):D.asl z (.imm (.slice (some ⟨b,o,none⟩) n c))=none:=(rfl)
@[go_sem]theorem kk7 (s:S)(d b:Nat)(cs:List LV)(t:TypeId):s.nS d b cs t={n:=s.n,tm:=put d (.d (.imm (.pointer (some ⟨b,0,none⟩)))) s.tm,bx:=put (b+1000000) ⟨cs,t⟩ s.bx,ar:=s.ar}:=(rfl)
@[go_sem]theorem kqs (s:S)(d b n c:Nat)(cs:List LV)(t:TypeId)(bx:Bx):s.nSl d b n c cs t bx={n:=s.n,tm:=put d (.d (.imm (.slice (some ⟨b,0,none⟩) n c))) s.tm,bx:=put (b+1000000) ⟨cs,t⟩ bx,ar:=s.ar}:=(rfl)
@[go_sem]theorem kxP (z n c:Nat)(pre:List LV)(ys:List D):elC z n c pre ys=pre++ys.flatMap D.lcs++List.replicate ((c-n)*z) .un:=(rfl)
@[go_sem]theorem kx4:([]:List D).flatMap D.lcs=[]:=(rfl)
@[go_sem]theorem kx3 (x:D): [x].flatMap D.lcs=x.lcs:=by simp
@[go_sem]theorem jkq (cs:Array Value):cvD (.agg cs)=.ag (cs.toList.map cvd):=(rfl)
@[go_sem]theorem yzB (b:Nat):(1000000<=b+1000000)=True:=by simp
@[go_sem]theorem yzC (b c:Nat):(b+1000000=c+1000000)=(b=c):=by simp
def br (b:Bool)(p q:Prop):Prop:=(b=true->p)/\(b=false->q)
@[go_sem ↓ high]theorem jk6 (p q:Prop):br true p q=p:=by simp[br]
@[go_sem ↓ high]theorem ywc (p q:Prop):br false p q=q:=by simp[br]
@[go_sem ↓ high]theorem kjn (b:Bool)(p q:Prop):br (!b) p q=br b q p:=by cases b<;>simp[br]
@[go_sem ↓ low]theorem kjo (b:Bool)(p q:Prop):br b p q=((b=true->p)/\(b=false->q)):=(rfl)
@[go_sem ↓]theorem jks (b:Bool)(p q:Prop):jkt (.d (.bool b)) p q=br b p q:=(rfl)
@[go_sem ↓]theorem kkh (b:Bool)(p q:Prop):LV.tr (.d (.bool b)) p q=br b p q:=(rfl)
@[go_sem ↓]theorem kvy (b:Bool)(p q r:Prop):gK true (.d (.bool b)) p q r=br b p q:=(rfl)
@[go_sem ↓]theorem kvx (b:Bool)(p q r:Prop):gK b (.tup []) p q r=r:=(rfl)
@[go_sem ↓]theorem kvz (b:Bool)(p q r:Prop):gK false (.d (.bool b)) p q r=br b q p:=by cases b<;>simp[gK,br]
@[go_sem ↓]theorem opsM_cons' (E:Env)(sp:FuncId->Option SpecX)(ds:List (Option Tmp))(dd:Option Tmp)(op:Op)(j:Nat)(want:Bool)(l:List O3)(s:S)(K:S->Prop)(Kp:D->S->Prop):qwR E sp ds (⟨dd,op,some (j,want)⟩::l) s K Kp=evW s (fun s=>sm (gs3 ds j) fun d=>sm (s.tm d) fun x=>gK want x
   (qxr E sp dd op {s with tm:=put d (.d (.bool want)) s.tm} (fun s'=>qwR E sp ds l s' K Kp) Kp)
   (dOk s dd/\qwR E sp ds l (S.pt {s with tm:=put d (.d (.bool !want)) s.tm} dd (.tup [])) K Kp)
   (dOk s dd/\qwR E sp ds l (S.pt s dd (.tup [])) K Kp)) ⟨⟩:=by
  unfold evW gK sm;rw[qwR];exact Eq.refl _
@[go_sem ↓]theorem ykR (E:Env)(sp:FuncId->Option SpecX)(s:S)(K:S->Prop)(Kp:D->S->Prop)(x:Operand)(d:Option Tmp):qxr E sp d (.move x) s K Kp=valK E (.move x) s fun x=>dOk s d/\K (s.pt d x):=(rfl)
@[go_sem ↓]theorem wwm (E:Env)(sp:FuncId->Option SpecX)(s:S)(K:S->Prop)(Kp:D->S->Prop)(x:Operand)(d:Option Tmp):qxr E sp d (.assign x) s K Kp=valK E (.assign x) s fun x=>dOk s d/\K (s.pt d x):=(rfl)
@[go_sem ↓]theorem ykP (E:Env)(sp:FuncId->Option SpecX)(s:S)(K:S->Prop)(Kp:D->S->Prop)(c a b:Operand)(d:Option Tmp):qxr E sp d (.pick c a b) s K Kp=valK E (.pick c a b) s fun x=>dOk s d/\K (s.pt d x):=(rfl)
@[go_sem ↓]theorem yq2 (E:Env)(sp:FuncId->Option SpecX)(s:S)(K:S->Prop)(Kp:D->S->Prop)(t:TypeId)(ps:Array (Nat×Operand))(d:Option Tmp):qxr E sp d (.build t ps) s K Kp=valK E (.build t ps) s fun x=>dOk s d/\K (s.pt d x):=(rfl)
@[go_sem ↓]theorem ykS (E:Env)(sp:FuncId->Option SpecX)(s:S)(K:S->Prop)(Kp:D->S->Prop)(t:TypeId)(a:Operand)(d:Option Tmp):qxr E sp d (.load t a) s K Kp=valK E (.load t a) s fun x=>dOk s d/\K (s.pt d x):=(rfl)
@[go_sem ↓]theorem wxR (E:Env)(sp:FuncId->Option SpecX)(s:S)(K:S->Prop)(Kp:D->S->Prop)(x:Operand)(d:Option Tmp):qxr E sp d (.nilCheck x) s K Kp=valK E (.nilCheck x) s fun x=>dOk s d/\K (s.pt d x):=(rfl)
@[go_sem ↓]theorem yq3 (E:Env)(sp:FuncId->Option SpecX)(s:S)(K:S->Prop)(Kp:D->S->Prop)(op:BinOp)(t t':TypeId)(x y:Operand)(d:Option Tmp):qxr E sp d (.binOp op t x y t') s K Kp=valK E (.binOp op t x y t') s fun x=>dOk s d/\K (s.pt d x):=(rfl)
@[go_sem ↓]theorem ykO (E:Env)(sp:FuncId->Option SpecX)(s:S)(K:S->Prop)(Kp:D->S->Prop)(op:UnOp)(t:TypeId)(x:Operand)(d:Option Tmp):qxr E sp d (.unOp op t x) s K Kp=valK E (.unOp op t x) s fun x=>dOk s d/\K (s.pt d x):=(rfl)
@[go_sem ↓]theorem wkA (E:Env)(sp:FuncId->Option SpecX)(s:S)(K:S->Prop)(Kp:D->S->Prop)(t t':TypeId)(x:Operand)(d:Option Tmp):qxr E sp d (.convert t t' x) s K Kp=valK E (.convert t t' x) s fun x=>dOk s d/\K (s.pt d x):=(rfl)
@[go_sem ↓]theorem zvc (E:Env)(sp:FuncId->Option SpecX)(s:S)(K:S->Prop)(Kp:D->S->Prop)(t:TypeId)(x:Operand)(d:Option Tmp):qxr E sp d (.makeInterface t x) s K Kp=valK E (.makeInterface t x) s fun x=>dOk s d/\K (s.pt d x):=(rfl)
@[go_sem ↓]theorem wxS (E:Env)(sp:FuncId->Option SpecX)(s:S)(K:S->Prop)(Kp:D->S->Prop)(f:Fn)(xs ys:Array Operand)(d:Option Tmp):qxr E sp d (.makeFunc f xs ys) s K Kp=valK E (.makeFunc f xs ys) s fun x=>dOk s d/\K (s.pt d x):=(rfl)
@[go_sem ↓]theorem wqA (E:Env)(sp:FuncId->Option SpecX)(s:S)(K:S->Prop)(Kp:D->S->Prop)(t:TypeId)(x:Operand)(f:Nat)(d:Option Tmp):qxr E sp d (.fieldAddr t x f) s K Kp=valK E (.fieldAddr t x f) s fun x=>dOk s d/\K (s.pt d x):=(rfl)
@[go_sem ↓]theorem yq0 (E:Env)(sp:FuncId->Option SpecX)(s:S)(K:S->Prop)(Kp:D->S->Prop)(t:TypeId)(x:Operand)(f:Nat)(d:Option Tmp):qxr E sp d (.field t x f) s K Kp=valK E (.field t x f) s fun x=>dOk s d/\K (s.pt d x):=(rfl)
@[go_sem ↓]theorem wq9 (E:Env)(sp:FuncId->Option SpecX)(s:S)(K:S->Prop)(Kp:D->S->Prop)(t:TypeId)(x i:Operand)(d:Option Tmp):qxr E sp d (.indexAddr t x i) s K Kp=valK E (.indexAddr t x i) s fun x=>dOk s d/\K (s.pt d x):=(rfl)
@[go_sem ↓]theorem yqz (E:Env)(sp:FuncId->Option SpecX)(s:S)(K:S->Prop)(Kp:D->S->Prop)(t:TypeId)(x i:Operand)(d:Option Tmp):qxr E sp d (.index t x i) s K Kp=valK E (.index t x i) s fun x=>dOk s d/\K (s.pt d x):=(rfl)
@[go_sem ↓]theorem yqw (E:Env)(sp:FuncId->Option SpecX)(s:S)(K:S->Prop)(Kp:D->S->Prop)(t:TypeId)(x:Operand)(lo hi:Option Operand)(d:Option Tmp):qxr E sp d (.slice t x lo hi none) s K Kp=valK E (.slice t x lo hi none) s fun x=>dOk s d/\K (s.pt d x):=(rfl)
@[go_sem ↓]theorem wk9 (E:Env)(sp:FuncId->Option SpecX)(s:S)(K:S->Prop)(Kp:D->S->Prop)(x:Operand)(i:Nat)(d:Option Tmp):qxr E sp d (.extract x i) s K Kp=valK E (.extract x i) s fun x=>dOk s d/\K (s.pt d x):=(rfl)
@[go_sem ↓]theorem yqv (E:Env)(sp:FuncId->Option SpecX)(s:S)(K:S->Prop)(Kp:D->S->Prop)(t:TypeId)(p x:Operand)(d:Option Tmp):qxr E sp d (.store t p x) s K Kp=(d=none/\sm (s.ev p) fun p=>sm (s.ev x) fun x=>zxM E s t p x K):=(rfl)
@[go_sem ↓]theorem yq4 (E:Env)(sp:FuncId->Option SpecX)(s:S)(K:S->Prop)(Kp:D->S->Prop)(t:TypeId)(d:Option Tmp):qxr E sp d (.alloc t) s K Kp=sm (E.ti t) fun i=>evW (vcs i.zero) (fun cs=>boxK E s d t i cs K) ⟨⟩:=(rfl)
@[go_sem ↓]theorem jx1 (E:Env)(sp:FuncId->Option SpecX)(s:S)(K:S->Prop)(Kp:D->S->Prop)(t:TypeId)(x:Operand)(d:Option Tmp):qxr E sp d (.box t x) s K Kp=sm (E.ti t) fun i=>sm (s.ev x) fun x=>sm (pcs x) fun cs=>boxK E s d t i cs K:=(rfl)
@[go_sem ↓]theorem wzC (E:Env)(sp:FuncId->Option SpecX)(s:S)(K:S->Prop)(Kp:D->S->Prop)(t:TypeId)(n:Nat)(ps:Array (Nat×Operand))(d:Option Tmp):qxr E sp d (.buildSlice t n ps) s K Kp=bslK E s d t n ps.toList K:=(rfl)
@[go_sem ↓]theorem yqy (E:Env)(sp:FuncId->Option SpecX)(s:S)(K:S->Prop)(Kp:D->S->Prop)(x:Operand)(d:Option Tmp):qxr E sp d (.panic x) s K Kp=sm (s.ev x) fun x=>match x with|.d (.ifc t y)=>Kp (.ifc t y) s|_=>False:=(rfl)
@[go_sem ↓]theorem kkN (s:S)(x:D)(K:D->S->Prop):frz s (.d x) K=K x s:=(rfl)
@[go_sem ↓]theorem kxw (s:S)(r sz n:Nat)(K:D->S->Prop):frz s (.os r sz n) K=frz1 s (.os r sz n) K:=(rfl)
@[go_sem ↓]theorem kxx (s:S)(xs:List LV)(K:D->S->Prop):frz s (.ag xs) K=frzs s xs fun ds s'=>K (.ag ds) s':=(rfl)
@[go_sem ↓]theorem jxU (s:S)(x:D)(K:LV->S->Prop):qwx s (.d x) K=K (.d x) s:=(rfl)
@[go_sem ↓]theorem yvr (s:S)(k o:Nat)(K:LV->S->Prop):qwx s (.bp k o) K=K (.bp k o) s:=(rfl)
@[go_sem ↓]theorem yvq (s:S)(x:D)(o:Nat)(K:LV->S->Prop):qwx s (.ep x o) K=K (.ep x o) s:=(rfl)
@[go_sem ↓]theorem yvp (s:S)(f:Fn)(xs ys:List LV)(K:LV->S->Prop):qwx s (.fn f xs ys) K=K (.fn f xs ys) s:=(rfl)
@[go_sem ↓]theorem yvm (s:S)(K:LV->S->Prop):qwx s .un K=K .un s:=(rfl)
@[go_sem ↓]theorem yvo (s:S)(k:Nat)(K:LV->S->Prop):qwx s (.mp k) K=K (.mp k) s:=(rfl)
@[go_sem ↓]theorem yvn (s:S)(r sz n:Nat)(K:LV->S->Prop):qwx s (.os r sz n) K=lnd1 s (.os r sz n) fun d s'=>K (.d d) s':=(rfl)
@[go_sem ↓]theorem yvs (s:S)(xs:List LV)(K:LV->S->Prop):qwx s (.ag xs) K=lnds s xs fun ds s'=>K (.d (.ag ds)) s':=(rfl)
@[go_sem ↓]theorem jjP (s:S)(x:D)(K:LV->S->Prop):qwY s (.d x) K=K (.d x) s:=(rfl)
@[go_sem ↓]theorem yvC (s:S)(k o:Nat)(K:LV->S->Prop):qwY s (.bp k o) K=K (.bp k o) s:=(rfl)
@[go_sem ↓]theorem yvB (s:S)(x:D)(o:Nat)(K:LV->S->Prop):qwY s (.ep x o) K=K (.ep x o) s:=(rfl)
@[go_sem ↓]theorem yvA (s:S)(f:Fn)(xs ys:List LV)(K:LV->S->Prop):qwY s (.fn f xs ys) K=K (.fn f xs ys) s:=(rfl)
@[go_sem ↓]theorem yv8 (s:S)(r sz n:Nat)(K:LV->S->Prop):qwY s (.os r sz n) K=frz1 s (.os r sz n) fun d s'=>K (.d d) s':=(rfl)
@[go_sem ↓]theorem yvD (s:S)(xs:List LV)(K:LV->S->Prop):qwY s (.ag xs) K=frz s (.ag xs) fun d s'=>K (.d d) s':=(rfl)
@[go_sem ↓]theorem jx2 (E:Env)(sp:FuncId->Option SpecX)(s:S)(K:S->Prop)(Kp:D->S->Prop)(x y:Operand)(t t':TypeId)(d:Option Tmp):qxr E sp d (.call ⟨.builtin .append,#[x,y],#[t,t']⟩) s K Kp=(t=t'/\sm (s.ev x) fun x=>sm (s.ev y) fun y=>wwB E s d t x y K):=(rfl)
@[go_sem ↓]theorem jx0 (E:Env)(sp:FuncId->Option SpecX)(s:S)(K:S->Prop)(Kp:D->S->Prop)(x:Operand)(t:TypeId)(d:Option Tmp):qxr E sp d (.call ⟨.builtin .len,#[x],#[t]⟩) s K Kp=sm (s.ev x) fun x=>mvK E x fun x=>wkR E s t x fun x=>dOk s d/\K (s.pt d x):=(rfl)
@[go_sem ↓]theorem jxz (E:Env)(sp:FuncId->Option SpecX)(s:S)(K:S->Prop)(Kp:D->S->Prop)(x y:Operand)(t t':TypeId)(d:Option Tmp):qxr E sp d (.call ⟨.builtin .max,#[x,y],#[t,t']⟩) s K Kp=sm (s.ev x) fun x=>sm (s.ev y) fun y=>mmK true x y fun x=>dOk s d/\K (s.pt d x):=(rfl)
@[go_sem ↓]theorem jxy (E:Env)(sp:FuncId->Option SpecX)(s:S)(K:S->Prop)(Kp:D->S->Prop)(x y:Operand)(t t':TypeId)(d:Option Tmp):qxr E sp d (.call ⟨.builtin .min,#[x,y],#[t,t']⟩) s K Kp=sm (s.ev x) fun x=>sm (s.ev y) fun y=>mmK false x y fun x=>dOk s d/\K (s.pt d x):=(rfl)
@[go_sem ↓]theorem kk8 (k k':IntKind)(a b:Int)(K:LV->Prop):mmK true (.d (.int k a)) (.d (.int k' b)) K=(k=k'/\K (.d (.int k (if a<b then b else a)))):=(rfl)
@[go_sem ↓]theorem kk9 (k k':IntKind)(a b:Int)(K:LV->Prop):mmK false (.d (.int k a)) (.d (.int k' b)) K=(k=k'/\K (.d (.int k (if b<a then b else a)))):=(rfl)
@[go_sem ↓]theorem ykU (E:Env)(sp:FuncId->Option SpecX)(s:S)(K:S->Prop)(Kp:D->S->Prop)(f:Operand)(xs:Array Operand)(ts:Array TypeId)(d:Option Tmp):qxr E sp d (.call ⟨.value f,xs,ts⟩) s K Kp=sm (s.ev f) fun f=>sm (s.evs (xs.toList.map fun x=>(0,x))) fun aZ'=>evW (aZ'.map (·.2)) (fun l=>wzw E sp s d f l K Kp) ⟨⟩:=(rfl)
@[go_sem ↓]theorem jq3 (E:Env)(s:S)(t:TypeId)(b:Bs)(lo hi:Option Operand)(K:LV->Prop):wxD E s t (.d (.st b)) lo hi K=sm (E.ti t) fun ti=>match ti.desc with
  |.str=>bndK s b.length lo hi fun l h=>K (.d (.st ((b.take h).drop l)))
  |_=>False:=by
  unfold wxD;congr;funext ti;cases ti.desc<;>first|exact Eq.refl _|(simp[D.asl,sm])
@[go_sem ↓]theorem jq4 (E:Env)(s:S)(t:TypeId)(sz:Nat)(xs:List D)(f:Bool)(lo hi:Option Operand)(K:LV->Prop):wxD E s t (.d (.sl sz xs f)) lo hi K=sm (E.ti t) fun ti=>match ti.desc with
  |.sli e=>sm (E.ti e) fun te=>sm (D.asl te.size (.sl sz xs f)) fun p=>bndK s p.1.length lo hi fun l h=>K (.d (.sl te.size ((p.1.take h).drop l) false))
  |_=>False:=by
  unfold wxD;congr;funext ti;cases ti.desc<;>exact Eq.refl _
@[go_sem ↓]theorem ykp (E:Env)(s:S)(t:TypeId)(v:Value)(lo hi:Option Operand)(K:LV->Prop):wxD E s t (.d (.imm v)) lo hi K=sm (E.ti t) fun ti=>match ti.desc with
  |.sli e=>sm (E.ti e) fun te=>sm (D.asl te.size (.imm v)) fun p=>bndK s p.1.length lo hi fun l h=>K (.d (.sl te.size ((p.1.take h).drop l) false))
  |_=>False:=by
  unfold wxD;congr;funext ti;cases ti.desc<;>exact Eq.refl _
theorem zkn {E:Env}{s:S}{t:TypeId}{x:LV}{K:LV->Prop}(h:x.ss=none):zjk E s t x K=zxp E s t x K:=by unfold zjk;rw[h]
@[go_sem ↓]theorem jjc (E:Env)(s:S)(t:TypeId)(b:Bs)(K:LV->Prop):zjk E s t (.d (.st b)) K=sm (E.ti t) fun ti=>match ti.desc with
  |.str=>K (.d (.int .i64 b.length))
  |_=>False:=by
  rw[zkn rfl];unfold zxp;congr;funext ti;cases ti.desc<;>first|exact Eq.refl _|(simp[D.asl,sm])
@[go_sem ↓]theorem jje (E:Env)(s:S)(t:TypeId)(sz:Nat)(xs:List D)(f:Bool)(K:LV->Prop):zjk E s t (.d (.sl sz xs f)) K=sm (E.ti t) fun ti=>match ti.desc with
  |.sli e=>sm (E.ti e) fun te=>sm (D.asl te.size (.sl sz xs f)) fun p=>K (.d (.int .i64 p.1.length))
  |_=>False:=by
  rw[zkn rfl];unfold zxp;congr;funext ti;cases ti.desc<;>exact Eq.refl _
@[go_sem ↓]theorem yvv (E:Env)(s:S)(t:TypeId)(K:LV->Prop):zjk E s t (.d (.imm (.slice none 0 0))) K=sm (E.ti t) fun ti=>match ti.desc with
  |.sli e=>sm (E.ti e) fun te=>sm (D.asl te.size (.imm (.slice none 0 0))) fun p=>K (.d (.int .i64 p.1.length))
  |_=>False:=by
  rw[zkn rfl];unfold zxp;congr;funext ti;cases ti.desc<;>exact Eq.refl _
@[go_sem ↓]theorem jjd (E:Env)(s:S)(t:TypeId)(b o n c:Nat)(K:LV->Prop):zjk E s t (.d (.imm (.slice (some ⟨b,o,none⟩) n c))) K=sm (E.ti t) fun ti=>match ti.desc with
  |.sli e=>sm (E.ti e) fun _=>K (.d (.int .i64 n))
  |_=>False:=(rfl)
@[go_sem ↓]theorem jjf (E:Env)(s:S)(t:TypeId)(r z n:Nat)(K:LV->Prop):zjk E s t (.os r z n) K=sm (E.ti t) fun ti=>match ti.desc with
  |.sli e=>sm (E.ti e) fun te=>sm (s.ar r) fun a=>n=a.2.2.length/\K (.d (.int .i64 n))
  |_=>False:=by
  rw[zkn rfl];unfold zxp;congr;funext ti;cases ti.desc<;>exact Eq.refl _
@[go_sem ↓]theorem jk3 (E:Env)(sp:FuncId->Option SpecX)(c:Code)(s:S)(Q:Ex->S->Prop)(Kp:D->S->Prop):cK E sp (.loop c) s Q Kp=evW s (fun s=>qxU (cK E sp (.loop c) s Q Kp) ⟨⟩) ⟨⟩:=(rfl)
theorem qzj {E:Env}{sp:FuncId->Option SpecX}{c:Code}{s:S}{Q:Ex->S->Prop}{Kp:D->S->Prop}{w:Ph (cK E sp (.loop c) s Q Kp)}{T:Type}(st:T->S)(μ:T->Nat)(t:T)(h0:Sub s (st t))
  (h:∀t,cK E sp c (st t) (thenK (fun s'=>evW s' (fun s'=>qxU (∃t',Sub s' (st t')/\μ t'<μ t) ⟨⟩) ⟨⟩) Q) Kp):qxU (cK E sp (.loop c) s Q Kp) w:=
 ⟨[],T,st,μ,⟨t,h0⟩,h⟩
theorem qqQ {E:Env}{sp:FuncId->Option SpecX}{c:Code}{s:S}{Q:Ex->S->Prop}{Kp:D->S->Prop}{w:Ph (cK E sp (.loop c) s Q Kp)}(ks:List Nat){T:Type}(st:T->S)(μ:T->Nat)(t:T)(h0:zjr ks s fun s=>evW s (fun s=>qxU (Sub s (st t)) ⟨⟩) ⟨⟩)
  (h:∀t,cK E sp c (st t) (thenK (fun s'=>evW s' (fun s'=>qxU (∃t',Sub s' (st t')/\μ t'<μ t) ⟨⟩) ⟨⟩) Q) Kp):qxU (cK E sp (.loop c) s Q Kp) w:=by
 refine⟨ks,qw4 (fun s hs=>?_) h0⟩;exact⟨T,st,μ,⟨t,hs⟩,h⟩
def wxv (E:Env)(X:SpecX)(s:S)(d:Option Tmp)(l:List LV)(K:S->Prop)(Kp:D->S->Prop):Prop:=match X with
 |.a Sp=>wxw Sp s d l K Kp
 |.b Sp=>wvB Sp s d l K Kp
 |.c Sp=>wvA E Sp s d l K Kp
@[go_sem ↓]theorem ywb (E:Env)(sp:FuncId->Option SpecX)(s:S)(d:Option Tmp)(f:FuncId)(first cap args:List LV)(K:S->Prop)(Kp:D->S->Prop):wzw E sp s d (.fn (.func f) first cap) args K Kp=
  sm (sp f) fun X=>wxv E X s d (first++args++cap) K Kp:=(rfl)
@[go_sem ↓]theorem jk2 (E:Env)(Sp:qzP)(s:S)(d:Option Tmp)(l:List LV)(K:S->Prop)(Kp:D->S->Prop):wxv E (.a Sp) s d l K Kp=
  evW l (fun l=>frzA s l fun aZ' s'=>evW (ddp (kyss aZ')) (fun ks=>nodup ks=true/\okB s'.bx ks/\evW (rens ks aZ') (fun ys=>
   qxU (Sp ys (fp ks s'.bx) (fun x bx' a1=>dOk s d/\K (s'.ret d ks x bx' a1)) (fun p bx'=>Kp p {s' with bx:=mrg ks bx' s'.bx})) ⟨⟩) ⟨⟩) ⟨⟩) ⟨⟩:=(rfl)
@[go_sem ↓]theorem jk1 (E:Env)(Sp:qvA)(s:S)(d:Option Tmp)(l:List LV)(K:S->Prop)(Kp:D->S->Prop):wxv E (.b Sp) s d l K Kp=
  evW l (fun l=>lndA s l fun aZ' s=>evW (ddp (kyss aZ')) (fun ks=>nodup ks=true/\nodup ((M3 s.bx 0 ks).map (·.2))=true/\nodup ((M3 s.bx 0 ks).map (·.1))=true/\evW (rens ks aZ') (fun ys=>evW (fp3 s.bx 0 ks) (fun bxc=>evW (pa3 s.ar (M3 s.bx 0 ks)) (fun arc=>
   qxU (Sp ys bxc arc (fun x bx' ar'=>dOk s d/\nodup ((N3 bx' 0 ks).map (·.1))=true/\nodup ((N3 bx' 0 ks).map (·.2))=true/\K (s.back d (M3 s.bx 0 ks) (N3 bx' 0 ks) ks x bx' ar'))
    (fun p bx'=>N3 bx' 0 ks=[]/\Kp p (s.back none (M3 s.bx 0 ks) [] ks .un bx' nix))) ⟨⟩) ⟨⟩) ⟨⟩) ⟨⟩) ⟨⟩) ⟨⟩:=(rfl)
@[go_sem ↓]theorem jk0 (E:Env)(Sp:qzP)(s:S)(d:Option Tmp)(l:List LV)(K:S->Prop)(Kp:D->S->Prop):wxv E (.c Sp) s d l K Kp=
  (E.hp=true/\evW l (fun l=>frzA s l fun aZ' s'=>evW (ddp (kyss aZ')) (fun ks=>nodup ks=true/\qj5 ks=true/\okB s'.bx ks/\evW (rens ks aZ') (fun ys=>evW (ovS s'.bx (fp ks s'.bx)) (fun bxc=>
    qxU (Sp ys bxc (fun x bx' _=>dOk s d/\K (S.pt {s' with bx:=ovS bx' (mrg ks bx' s'.bx)} d (rn none x))) (fun p bx'=>Kp p {s' with bx:=ovS bx' (mrg ks bx' s'.bx)})) ⟨⟩) ⟨⟩) ⟨⟩) ⟨⟩) ⟨⟩):=(rfl)
@[go_sem]theorem yzO:qj5 []=true:=(rfl)
@[go_sem]theorem yzN (a:Nat):qj5 [a]=decide (a<1000000):=by simp[qj5]
@[go_sem]theorem yzM (a b:Nat):qj5 [a,b]=(decide (a<1000000)&&decide (b<1000000)):=by simp[qj5]
@[go_sem]theorem kxS:dC []=[]:=(rfl)
@[go_sem]theorem kv1 (x:D)(xs:List LV):dC (.d x::xs)=.d x::dC xs:=(rfl)
@[go_sem]theorem kkR (xs:List LV):dC (.un::xs)=.un::dC xs:=(rfl)
@[go_sem]theorem kkS (r z n:Nat)(xs:List LV):dC (.os r z n::xs)=.un::dC xs:=(rfl)
@[go_sem]theorem kkT (k o:Nat)(xs:List LV):dC (.bp k o::xs)=.un::dC xs:=(rfl)
@[go_sem]theorem jkm (ds:List D):dC (ds.map LV.d)=ds.map LV.d:=by rw[zx6]
@[go_sem]theorem qvJ (n:Nat):dC (List.replicate n .un)=List.replicate n .un:=by
  induction n with|zero=>{rfl}|succ n ih=>{simp only[List.replicate_succ,dC,ih]}
@[go_sem]theorem qvn (xs ys:List LV):dC (xs++ys)=dC xs++dC ys:=by
  induction xs with|nil=>{rfl}|cons x xs ih=>{simp only[List.cons_append,dC,ih]}
@[go_sem]theorem jxo (k:Nat)(b:Box)(f g:Bx):ovS (put k b f) g=if 1000000<=k then put k ⟨dC b.cells,b.ty⟩ (ovS f g)else ovS f g:=by
  funext j;by_cases h:1000000<=k;{rw[if_pos h];by_cases e:j=k;{subst e;simp only[ovS,put,if_pos h,if_true,Option.map_some]};{simp only[ovS,put,if_neg e]}};{rw[if_neg h];by_cases hj:1000000<=j;{have e:j≠k:=by{omega};simp only[ovS,if_pos hj,put,if_neg e]};{simp only[ovS,if_neg hj]}}
@[go_sem]theorem ykK (k:Nat)(b:Box)(f g:Bx):ovS f (put k b g)=if 1000000<=k then ovS f g else put k b (ovS f g):=by
  funext j;by_cases h:1000000<=k;{rw[if_pos h];by_cases hj:1000000<=j;{simp only[ovS,if_pos hj]};{have e:j≠k:=by{omega};simp only[ovS,if_neg hj,put,if_neg e]}};{rw[if_neg h];by_cases e:j=k;{subst e;simp only[ovS,put,if_neg h,if_true]};{simp only[ovS,put,if_neg e]}}
@[go_sem]theorem jxq (k:Nat)(f g:Bx):ovS (del k f) g=if 1000000<=k then del k (ovS f g)else ovS f g:=by
  funext j;by_cases h:1000000<=k;{rw[if_pos h];by_cases e:j=k;{subst e;simp only[ovS,del,if_pos h,if_true,Option.map_none]};{simp only[ovS,del,if_neg e]}};{rw[if_neg h];by_cases hj:1000000<=j;{have e:j≠k:=by{omega};simp only[ovS,if_pos hj,del,if_neg e]};{simp only[ovS,if_neg hj]}}
@[go_sem]theorem ykL (k:Nat)(f g:Bx):ovS f (del k g)=if 1000000<=k then ovS f g else del k (ovS f g):=by
  funext j;by_cases h:1000000<=k;{rw[if_pos h];by_cases hj:1000000<=j;{simp only[ovS,if_pos hj]};{have e:j≠k:=by{omega};simp only[ovS,if_neg hj,del,if_neg e]}};{rw[if_neg h];by_cases e:j=k;{subst e;simp only[ovS,del,if_neg h,if_true]};{simp only[ovS,del,if_neg e]}}
@[go_sem]theorem yqt (f g h:Bx):ovS (ovS f g) h=ovS f h:=by
  funext j;by_cases hj:1000000<=j;{simp only[ovS,if_pos hj];cases f j<;>simp[zj0]};{simp only[ovS,if_neg hj]}
@[go_sem]theorem jxp (f g h:Bx):ovS f (ovS g h)=ovS f h:=by
  funext j;by_cases hj:1000000<=j;{simp only[ovS,if_pos hj]};{simp only[ovS,if_neg hj]}
@[go_sem]theorem qk8 (f g:Bx)(j:Nat):ovS f g j=if 1000000<=j then(f j).map fun b=>⟨dC b.cells,b.ty⟩else g j:=(rfl)
@[go_sem]theorem fp_nil' (bx:Bx):fp [] bx=nix:=by
  funext j;unfold fp;split<;>simp[nth,nix]
theorem NS.ov {bx:Bx}(h:NS bx)(g:Bx):ovS bx bx=bx:=by
 funext j;unfold ovS;split;{cases e:bx j with|none=>{rfl}|some b=>{obtain⟨cs,t⟩:=b;simp only[Option.map_some,h.dc _ _ e]}};rfl
theorem qz6 {α:Type}{f:Nat->Option α}:qqW f f:=fun _ _ h=>h
def wjg {α:Type}(o:Option α)(K:α->Prop)(_w:Ph K):Prop:=∀y,o=some y->K y
@[go_sem]theorem zwZ {α:Type}(x:α)(K:α->Prop)(w:Ph K):wjg (some x) K w=K x:=by simp[wjg]
@[go_sem]theorem yxm {α:Type}(K:α->Prop)(w:Ph K):wjg none K w=True:=by simp[wjg]
@[go_sem ↓]theorem kqE (s:S)(i:TI)(k off:Nat)(K:LV->Prop):ldK s i (.bp k off) K=sm (s.bx k) fun b=>b.ty<1000000/\sm (prt i off b.cells) K:=(rfl)
@[go_sem ↓]theorem kqD (s:S)(i:TI)(x:D)(off:Nat)(K:LV->Prop):ldK s i (.ep x off) K=(x.flat=true/\sm (prt i off x.lcs) K):=(rfl)
@[go_sem ↓]theorem kqF (s:S)(i:TI)(r sz n j o:Nat)(K:LV->Prop):ldK s i (.ap r sz n j o) K=sm (s.ar r) fun a=>a.1=sz/\n=a.2.2.length/\j<n/\wjg a.2.2[j]? (fun x=>x.flat=true/\sm (prt i o x.lcs) K) ⟨⟩:=(rfl)
@[go_sem ↓]theorem kxa (E:Env)(s:S)(t:TypeId)(x:LV)(i:Int)(K:LV->Prop):wvf E s t x i K=sm (E.ti t) fun ti=>
  match ti.desc with
  |.sli e=>sm (E.ti e) fun te=>
    match x with
    |.os r sz n=>sm (s.ar r) fun a=>n=a.2.2.length/\sz=te.size/\0<=i/\i<n/\K (.ap r sz n i.toNat 0)
    |.d x=>sm (x.asl te.size) fun p=>0<=i/\i<p.1.length/\wjg p.1[i.toNat]? (fun y=>K (.ep y 0)) ⟨⟩
    |_=>False
  |.arr n e=>sm (E.ti e) fun te=>
    match x with
    |.bp k off=>0<=i/\i<n/\K (.bp k (off+i.toNat*te.size))
    |_=>False
  |_=>False:=(rfl)
@[go_sem ↓]theorem kqZ (E:Env)(s:S)(t:TypeId)(r z n:Nat)(i:Int)(K:LV->Prop):ixK E s t (.os r z n) i K=wvf E s t (.os r z n) i K:=(rfl)
@[go_sem ↓]theorem kxb (E:Env)(s:S)(t:TypeId)(k o:Nat)(i:Int)(K:LV->Prop):ixK E s t (.bp k o) i K=wvf E s t (.bp k o) i K:=(rfl)
@[go_sem ↓]theorem kqY (E:Env)(s:S)(t:TypeId)(z:Nat)(xs:List D)(f:Bool)(i:Int)(K:LV->Prop):ixK E s t (.d (.sl z xs f)) i K=wvf E s t (.d (.sl z xs f)) i K:=(rfl)
@[go_sem ↓]theorem jjv (E:Env)(s:S)(t:TypeId)(i:Int)(K:LV->Prop):ixK E s t (.d (.imm (.slice none 0 0))) i K=wvf E s t (.d (.imm (.slice none 0 0))) i K:=(rfl)
@[go_sem ↓]theorem kqX (E:Env)(s:S)(t:TypeId)(b o n c:Nat)(i:Int)(K:LV->Prop):ixK E s t (.d (.imm (.slice (some ⟨b,o,none⟩) n c))) i K=sm (E.ti t) fun ti=>match ti.desc with
   |.sli e=>sm (E.ti e) fun te=>0<=i/\i<n/\K (.d (.imm (.pointer (some ⟨b,o+i.toNat*te.size,none⟩))))
   |_=>False:=(rfl)
@[go_sem ↓]theorem jj9 (E:Env)(t:TypeId)(x:LV)(i:Int)(K:LV->Prop):jjA E t x i K=sm (E.ti t) fun ti=>
  match ti.desc with
  |.str=>match x with
    |.d (.st b)=>0<=i/\i<b.length/\wjg b[i.toNat]? (fun c=>K (.d (.int .u8 c.toNat))) ⟨⟩
    |_=>False
  |.arr n e=>sm (E.ti e) fun te=>sm (qqg x) fun xs=>0<=i/\i<n/\sm (prt te (i.toNat*te.size) xs) K
  |_=>False:=(rfl)
@[go_sem ↓]theorem wzB (E:Env)(sp:FuncId->Option SpecX)(s:S)(K:S->Prop)(Kp:D->S->Prop)(x:Operand)(t t':TypeId)(ok:Bool)(d:Option Tmp):qxr E sp d (.typeAssert x t t' ok) s K Kp=valK E (.typeAssert x t t' ok) s fun x=>dOk s d/\K (s.pt d x):=(rfl)
@[go_sem ↓]theorem wk8 (E:Env)(sp:FuncId->Option SpecX)(s:S)(K:S->Prop)(Kp:D->S->Prop)(t:TypeId)(d:Option Tmp):qxr E sp d (.makeMap t none) s K Kp=yqF E s d K:=(rfl)
@[go_sem ↓]theorem wwl (E:Env)(sp:FuncId->Option SpecX)(s:S)(K:S->Prop)(Kp:D->S->Prop)(t:TypeId)(m k x:Operand)(d:Option Tmp):qxr E sp d (.insert t m k x) s K Kp=(d=none/\sm (s.ev m) fun m=>sm (s.ev k) fun k=>sm (s.ev x) fun x=>mvK E m fun m=>wvk E s t m k x K):=(rfl)
@[go_sem ↓]theorem wq7 (E:Env)(sp:FuncId->Option SpecX)(s:S)(K:S->Prop)(Kp:D->S->Prop)(t:TypeId)(m k x:Operand)(d:Option Tmp):qxr E sp d (.mapUpdate t m k x) s K Kp=(d=none/\sm (s.ev m) fun m=>sm (s.ev k) fun k=>sm (s.ev x) fun x=>mvK E m fun m=>wvk E s t m k x K):=(rfl)
@[go_sem ↓]theorem yqx (E:Env)(sp:FuncId->Option SpecX)(s:S)(K:S->Prop)(Kp:D->S->Prop)(t:TypeId)(x:Operand)(d:Option Tmp):qxr E sp d (.range t x) s K Kp=sm (s.ev x) fun x=>yqc E s d t x K:=(rfl)
@[go_sem ↓]theorem ykQ (E:Env)(sp:FuncId->Option SpecX)(s:S)(K:S->Prop)(Kp:D->S->Prop)(x:Operand)(d:Option Tmp):qxr E sp d (.next x false) s K Kp=sm (s.ev x) fun x=>yq8 s d x K:=(rfl)
@[go_sem ↓]theorem yq1 (E:Env)(sp:FuncId->Option SpecX)(s:S)(K:S->Prop)(Kp:D->S->Prop)(x:Operand)(d:Option Tmp):qxr E sp d (.entry x) s K Kp=sm (s.ev x) fun x=>yx4 s d x K:=(rfl)
@[go_sem ↓]theorem wwk (E:Env)(sp:FuncId->Option SpecX)(s:S)(K:S->Prop)(Kp:D->S->Prop)(t:TypeId)(m k:Operand)(ok:Bool)(d:Option Tmp):qxr E sp d (.lookup t m k ok) s K Kp=(sm (s.ev m) fun m=>sm (s.ev k) fun k=>mvK E m fun m=>yqL E s t m k ok fun x=>dOk s d/\K (s.pt d x)):=(rfl)
@[go_sem ↓]theorem kqx (E:Env)(j:Nat)(K:LV->Prop):mvK E (.mp j) K=K (.mp j):=(rfl)
@[go_sem ↓]theorem jxG (E:Env)(b:Nat)(K:LV->Prop):mvK E (.d (.imm (.map (some b)))) K=(E.hp=true/\K (.mp (b+1000000))):=(rfl)
@[go_sem ↓]theorem kqu (E:Env)(a:Option Addr)(n c:Nat)(K:LV->Prop):mvK E (.d (.imm (.slice a n c))) K=K (.d (.imm (.slice a n c))):=(rfl)
@[go_sem ↓]theorem kqv (E:Env)(z:Nat)(xs:List D)(f:Bool)(K:LV->Prop):mvK E (.d (.sl z xs f)) K=K (.d (.sl z xs f)):=(rfl)
@[go_sem ↓]theorem kqt (E:Env)(b:Bs)(K:LV->Prop):mvK E (.d (.st b)) K=K (.d (.st b)):=(rfl)
@[go_sem ↓]theorem kqw (E:Env)(r z n:Nat)(K:LV->Prop):mvK E (.os r z n) K=K (.os r z n):=(rfl)
@[go_sem ↓]theorem kq7 (E:Env)(s:S)(t:TypeId)(x:D)(K:LV->Prop):wkR E s t (.d x) K=zjk E s t (.d x) K:=(rfl)
@[go_sem ↓]theorem jja (E:Env)(s:S)(t:TypeId)(r z n:Nat)(K:LV->Prop):wkR E s t (.os r z n) K=zjk E s t (.os r z n) K:=(rfl)
@[go_sem ↓]theorem jjb (E:Env)(s:S)(t:TypeId)(j:Nat)(K:LV->Prop):wkR E s t (.mp j) K=sm (E.ti t) fun ti=>match ti.desc with
   |.map _ _=>sm (s.bx j) fun b=>b.ty=1000000/\K (.d (.int .i64 (b.cells.length /2:Nat)))
   |_=>False:=(rfl)
@[go_sem ↓]theorem jxP (E:Env)(s:S)(t:TypeId)(j:Nat)(k:D)(ok:Bool)(K:LV->Prop):yqL E s t (.mp j) (.d k) ok K=sm (E.ti t) fun ti=>match ti.desc with
  |.map kt vt=>sm (E.ti kt) fun ki=>sm (E.ti vt) fun vi=>sm (s.bx j) fun b=>b.ty=1000000/\kof ki k=true/\qkX ki b.cells=true/\evW (qkA k b.cells) (fun o=>yvl ok vi.zero b.cells K o) ⟨⟩
  |_=>False:=by
  unfold yqL;congr
@[go_sem ↓]theorem yqJ (ok:Bool)(z:Value)(cs:List LV)(K:LV->Prop)(i:Nat):yvl ok z cs K (some i)=sm cs[2*i+1]? fun v=>K (if ok then .tup [v,.d (.bool true)]else v):=(rfl)
@[go_sem ↓]theorem yqK (ok:Bool)(z:Value)(cs:List LV)(K:LV->Prop):yvl ok z cs K none=K (if ok then .tup [cv z,.d (.bool false)]else cv z):=(rfl)
@[go_sem ↓]theorem yqE (E:Env)(s:S)(d:Nat)(K:S->Prop):yqF E s (some d) K=(d<s.n/\d<1000/\if E.st d then E.hp=true/\∀b,s.bx (b+1000000)=none->K {n:=s.n,tm:=put d (.d (.imm (.map (some b)))) s.tm,bx:=put (b+1000000) ⟨[],1000000⟩ s.bx,ar:=s.ar}else K (s.nm d)):=(rfl)
@[go_sem ↓]theorem jj8 (E:Env)(s:S)(t:TypeId)(j:Nat)(k:D)(x:LV)(K:S->Prop):wvk E s t (.mp j) (.d k) x K=sm (E.ti t) fun ti=>match ti.desc with
  |.map kt _=>sm (E.ti kt) fun ki=>sm (s.bx j) fun b=>b.ty=1000000/\kof ki k=true/\qkX ki b.cells=true/\one x=true/\evW (mset b.cells k x) (fun cs=>K {s with bx:=put j ⟨cs,b.ty⟩ s.bx}) ⟨⟩
  |_=>False:=by
  unfold wvk;congr
@[go_sem ↓]theorem jqL (E:Env)(s:S)(d:Nat)(t:TypeId)(j:Nat)(K:S->Prop):yqc E s (some d) t (.mp j) K=sm (E.ti t) fun ti=>match ti.desc with
  |.map _ _=>sm (s.bx j) fun b=>b.ty=1000000/\d<s.n/\d<1000/\evW (1000001+b.cells.length /2) (fun n=>K (s.nb d [.mp j] n)) ⟨⟩
  |_=>False:=by
  unfold yqc;congr
@[go_sem ↓]theorem jx9 (s:S)(d:Option Tmp)(r:Nat)(K:S->Prop):yq8 s d (.bp r 0) K=sm (s.bx r) fun b=>match b.cells with
   |.mp j::cs=>sm (qkN cs) fun seen=>sm (s.bx j) fun m=>m.ty=1000000/\b.ty=1000001+m.cells.length /2/\m.cells.length%2=0/\dOk s d/\evW s (fun s=>evW m.cells (fun mc=>qxU (jxA s d r j b.ty cs seen mc K) ⟨⟩/\qxU (jxB s d seen mc K) ⟨⟩) ⟨⟩) ⟨⟩
   |_=>False:=(rfl)
@[go_sem ↓]theorem jkb (s:S)(d:Option Tmp)(r:Nat)(K:S->Prop):yx4 s d (.bp r 0) K=sm (s.bx r) fun b=>match b.cells with
   |.mp j::cs=>sm (qkN cs) fun seen=>sm seen.getLast? fun i=>sm (s.bx j) fun m=>m.ty=1000000/\b.ty=1000001+m.cells.length /2/\dOk s d/\sm m.cells[2*i]? fun k=>sm m.cells[2*i+1]? fun v=>K (s.pt d (.tup [k,v]))
   |_=>False:=(rfl)
@[go_sem ↓]theorem kqB (E:Env)(s:S)(i:TI)(k o:Nat)(K:LV->Prop):ldX E s i (.bp k o) K=ldK s i (.bp k o) K:=(rfl)
@[go_sem ↓]theorem kqA (E:Env)(s:S)(i:TI)(x:D)(o:Nat)(K:LV->Prop):ldX E s i (.ep x o) K=ldK s i (.ep x o) K:=(rfl)
@[go_sem ↓]theorem kqC (E:Env)(s:S)(i:TI)(r z n j o:Nat)(K:LV->Prop):ldX E s i (.ap r z n j o) K=ldK s i (.ap r z n j o) K:=(rfl)
@[go_sem ↓]theorem kq9 (E:Env)(s:S)(i:TI)(b o:Nat)(K:LV->Prop):ldX E s i (.d (.imm (.pointer (some ⟨b,o,none⟩)))) K=(E.hp=true/\ldK s i (.bp (b+1000000) o) K):=(rfl)
@[go_sem ↓]theorem jjh (E:Env)(s:S)(i:TI)(n:Nat)(K:LV->Prop):ldA E s i (.tmp n) K=sm (s.ev (.tmp n)) fun x=>ldX E s i x K:=(rfl)
@[go_sem ↓]theorem yqO (E:Env)(s:S)(i:TI)(v:Value)(K:LV->Prop):ldA E s i (.const v) K=sm (s.ev (.const v)) fun x=>ldX E s i x K:=(rfl)
@[go_sem ↓]theorem jji (E:Env)(s:S)(i:TI)(n:Nat)(K:LV->Prop):ldA E s i (.global n) K=(n=wjh/\i.agg=false/\qxU (kxk K) ⟨⟩):=(rfl)
@[go_sem]theorem jjC:wjh=1:=(rfl)
def zwX:Dk->Bool
 |.sli _=>true
 |_=>false
theorem zkq (d:Dk):(∃e,d=.sli e)=(zwX d=true):=by
 apply propext;cases d<;>simp[zwX]
@[go_sem]theorem yxg (e:Nat):zwX (.sli e)=true:=(rfl)
@[go_sem]theorem jq5 (k:IntKind)(a:Int)(y:LV):slN (.d (.int k a)) y=none:=(rfl)
@[go_sem]theorem kzk (a:Bs)(y:LV):slN (.d (.st a)) y=none:=(rfl)
@[go_sem]theorem ykr (a:Bool)(y:LV):slN (.d (.bool a)) y=none:=(rfl)
@[go_sem]theorem kzl (a:List D)(y:LV):slN (.d (.ag a)) y=none:=(rfl)
@[go_sem]theorem jq7 (t:TypeId)(a:D)(y:LV):slN (.d (.ifc t a)) y=none:=(rfl)
@[go_sem]theorem ykq (y:LV):slN (.d (.imm .nilIface)) y=none:=(rfl)
@[go_sem]theorem jq6 (a:Option Addr)(n c n' c':Nat):slN (.d (.imm (.slice a n c))) (.d (.imm (.slice none n' c')))=some (some a.isNone):=(rfl)
@[go_sem]theorem kkk (z:Nat)(x:D)(xs:List D)(f:Bool)(n' c':Nat):slN (.d (.sl z (x::xs) f)) (.d (.imm (.slice none n' c')))=some (some false):=(rfl)
@[go_sem]theorem kkj (z:Nat)(f:Bool)(n' c':Nat):slN (.d (.sl z [] f)) (.d (.imm (.slice none n' c')))=some none:=(rfl)
def ywd (E:Env)(c:Bool)(op:BinOp)(t:TypeId)(x y:LV)(K:LV->Prop):Option (Option Bool)->Prop
 |some (some b)=>sm (E.ti t) fun i=>(∃e,i.desc=.sli e)/\eqK op b K
 |some none=>sm (E.ti t) fun i=>(∃e,i.desc=.sli e)/\∀b,eqK op b K
 |none=>zvt E c op t x y K
@[go_sem ↓]theorem jkF (E:Env)(c:Bool)(op:BinOp)(t:TypeId)(x y:LV)(K:LV->Prop):yxG E c op t x y K=evW (slN x y) (fun o=>ywd E c op t x y K o) ⟨⟩:=by
  unfold yxG evW;generalize slN x y=o;rcases o with _|_|b<;>rfl
@[go_sem ↓]theorem yxH (E:Env)(c:Bool)(op:BinOp)(t:TypeId)(x y:LV)(K:LV->Prop):ywd E c op t x y K none=zvt E c op t x y K:=(rfl)
@[go_sem ↓]theorem kjq (E:Env)(c:Bool)(op:BinOp)(t:TypeId)(x y:LV)(K:LV->Prop)(b:Bool):ywd E c op t x y K (some (some b))=sm (E.ti t) fun i=>(zwX i.desc=true/\eqK op b K):=by
  show(sm (E.ti t) fun i=>(∃e,i.desc=.sli e)/\eqK op b K)=_;congr;funext i;rw[zkq]
@[go_sem ↓]theorem kjr (E:Env)(c:Bool)(op:BinOp)(t:TypeId)(x y:LV)(K:LV->Prop):ywd E c op t x y K (some none)=sm (E.ti t) fun i=>(zwX i.desc=true/\∀b,eqK op b K):=by
  show(sm (E.ti t) fun i=>(∃e,i.desc=.sli e)/\∀b,eqK op b K)=_;congr;funext i;rw[zkq]
@[go_sem ↓]theorem jkO (E:Env)(c:Bool)(op:BinOp)(t:TypeId)(k:IntKind)(a:Int)(k':IntKind)(b:Int)(K:LV->Prop):zvt E c op t (.d (.int k a)) (.d (.int k' b)) K=iiK E op k a k' b K:=(rfl)
@[go_sem ↓]theorem jkK (E:Env)(c:Bool)(op:BinOp)(t:TypeId)(a b:Bs)(K:LV->Prop):zvt E c op t (.d (.st a)) (.d (.st b)) K=stK op a b K:=(rfl)
@[go_sem ↓]theorem jkR (E:Env)(c:Bool)(op:BinOp)(t:TypeId)(a b:Bool)(K:LV->Prop):zvt E c op t (.d (.bool a)) (.d (.bool b)) K=binK E op t (.d (.bool a)) (.d (.bool b)) K:=(rfl)
@[go_sem ↓]theorem jkP (E:Env)(c:Bool)(op:BinOp)(t:TypeId)(xs ys:List D)(K:LV->Prop):zvt E c op t (.d (.ag xs)) (.d (.ag ys)) K=(sm (E.ti t) fun i=>i.cmp=true/\i.desc=.st i.fields/\wv2 E xs ys i.fields fun r=>eqK op r K):=(rfl)
@[go_sem ↓]theorem kxK (E:Env)(xs ys:List D)(K:Bool->Prop):wv2 E xs ys [] K=K true:=(rfl)
@[go_sem ↓]theorem kxL (E:Env)(xs ys:List D)(o:Nat)(t:TypeId)(fs:List (Nat×TypeId))(K:Bool->Prop):wv2 E xs ys ((o,t)::fs) K=(sm (E.ti t) fun i=>sm xs[o]? fun x=>sm ys[o]? fun y=>wqn i.desc x y fun r=>wv2 E xs ys fs fun q=>K (r&&q)):=(rfl)
@[go_sem ↓]theorem kzs (k k1 k2:IntKind)(a b:Int)(K:Bool->Prop):wqn (.int k) (.int k1 a) (.int k2 b) K=(k1=k2/\K (a==b)):=(rfl)
@[go_sem ↓]theorem kzr (a b:Bs)(K:Bool->Prop):wqn .str (.st a) (.st b) K=K (a==b):=(rfl)
@[go_sem ↓]theorem kzt (a b:Bool)(K:Bool->Prop):wqn .boo (.bool a) (.bool b) K=K (a==b):=(rfl)
@[go_sem ↓]theorem jkL (E:Env)(c:Bool)(op:BinOp)(t:TypeId)(K:LV->Prop):zvt E c op t (.d (.imm .nilIface)) (.d (.imm .nilIface)) K=(c=true/\sm (E.ti t) fun i=>i.desc=.ifc/\eqK op true K):=(rfl)
@[go_sem ↓]theorem jkN (E:Env)(c:Bool)(op:BinOp)(t t':TypeId)(x:D)(K:LV->Prop):zvt E c op t (.d (.ifc t' x)) (.d (.imm .nilIface)) K=(sm (E.ti t) fun i=>i.desc=.ifc/\eqK op false K):=(rfl)
@[go_sem ↓]theorem jkM (E:Env)(c:Bool)(op:BinOp)(t t':TypeId)(x:D)(K:LV->Prop):zvt E c op t (.d (.imm .nilIface)) (.d (.ifc t' x)) K=(sm (E.ti t) fun i=>i.desc=.ifc/\eqK op false K):=(rfl)
@[go_sem ↓]theorem jkQ (E:Env)(c:Bool)(op:BinOp)(t t1 t2:TypeId)(k k':IntKind)(a b:Int)(K:LV->Prop):zvt E c op t (.d (.ifc t1 (.int k a))) (.d (.ifc t2 (.int k' b))) K=(sm (E.ti t) fun i=>i.desc=.ifc/\t1=t2/\k=k'/\sm (E.ti t1) fun j=>j.desc=.int k/\j.cmp=true/\eqK op (a==b) K):=(rfl)
@[go_sem ↓]theorem kxO:type_of% @eqK.eq_1:=nq @eqK.eq_1
@[go_sem ↓]theorem kxN:type_of% @eqK.eq_2:=nq @eqK.eq_2
@[go_sem ↓]theorem kxe:type_of% @iiK.eq_1:=nq @iiK.eq_1
@[go_sem ↓]theorem kxd:type_of% @iiK.eq_2:=nq @iiK.eq_2
@[go_sem ↓]theorem kxc:type_of% @iiK.eq_3:=nq @iiK.eq_3
@[go_sem ↓]theorem jq1 (t:TypeId)(i:TI)(ok:Bool)(t':TypeId)(y:D)(K:LV->Prop):taK t i ok (.d (.ifc t' y)) K=match i.desc with
  |.ifc=>False
  |_=>(t'=t->K (if ok then .tup [.d y,.d (.bool true)]else .d y))/\(t'≠t->ok=true/\K (.tup [cv i.zero,.d (.bool false)])):=by
  unfold taK;cases i.desc<;>exact Eq.refl _
@[go_sem ↓]theorem jq0 (t:TypeId)(i:TI)(ok:Bool)(K:LV->Prop):taK t i ok (.d (.imm .nilIface)) K=match i.desc with
  |.ifc=>False
  |_=>ok=true/\K (.tup [cv i.zero,.d (.bool false)]):=by
  unfold taK;cases i.desc<;>exact Eq.refl _
@[go_sem ↓]theorem yv9 (s:S)(k:Nat)(K:LV->S->Prop):qwY s (.mp k) K=K (.mp k) s:=(rfl)
@[go_sem]theorem kxj:type_of% @gsl.eq_1:=nq @gsl.eq_1
@[go_sem]theorem fzb_e1:type_of% @fzb.eq_1:=nq @fzb.eq_1
@[go_sem]theorem kxu:type_of% @fzb.eq_2:=nq @fzb.eq_2
@[go_sem]theorem kxt:type_of% @fzb.eq_3:=nq @fzb.eq_3
@[go_sem]theorem kxs:type_of% @fzb.eq_4:=nq @fzb.eq_4
@[go_sem]theorem kxr:type_of% @fzb.eq_5:=nq @fzb.eq_5
@[go_sem]theorem kxq:type_of% @fzb.eq_6:=nq @fzb.eq_6
@[go_sem]theorem kxp:type_of% @fzb.eq_7:=nq @fzb.eq_7
@[go_sem]theorem kxo:type_of% @fzb.eq_8:=nq @fzb.eq_8
@[go_sem]theorem kxn:type_of% @fzb.eq_9:=nq @fzb.eq_9
@[go_sem]theorem jjE:type_of% @fzb.eq_10:=nq @fzb.eq_10
@[go_sem]theorem jjG:type_of% @fzbL.eq_1:=nq @fzbL.eq_1
@[go_sem]theorem jjF:type_of% @fzbL.eq_2:=nq @fzbL.eq_2
@[go_sem]theorem Box.fzb_e1:type_of% @Box.fzb.eq_1:=nq @Box.fzb.eq_1
@[go_sem]theorem S.fzb_e1:type_of% @S.fzb.eq_1:=nq @S.fzb.eq_1
@[go_sem]theorem jwX:type_of% @tyo.eq_1:=nq @tyo.eq_1
@[go_sem]theorem kq4:type_of% @lnt.eq_1:=nq @lnt.eq_1
@[go_sem]theorem kkX:type_of% @cn.eq_1:=nq @cn.eq_1
@[go_sem]theorem kjh:type_of% @cnC.eq_1:=nq @cnC.eq_1
@[go_sem]theorem kjg:type_of% @cnC.eq_2:=nq @cnC.eq_2
@[go_sem]theorem kjd:type_of% @cnM.eq_1:=nq @cnM.eq_1
@[go_sem]theorem kjc:type_of% @cnM.eq_2:=nq @cnM.eq_2
@[go_sem]theorem kx0:type_of% @fp3.eq_1:=nq @fp3.eq_1
@[go_sem]theorem kxz:type_of% @fp3.eq_2:=nq @fp3.eq_2
@[go_sem]theorem kvu:type_of% @M3.eq_1:=nq @M3.eq_1
@[go_sem]theorem kvt:type_of% @M3.eq_2:=nq @M3.eq_2
@[go_sem]theorem kzX:type_of% @pa3.eq_1:=nq @pa3.eq_1
@[go_sem]theorem kzW:type_of% @pa3.eq_2:=nq @pa3.eq_2
@[go_sem]theorem kvs:type_of% @N3.eq_1:=nq @N3.eq_1
@[go_sem]theorem kvr:type_of% @N3.eq_2:=nq @N3.eq_2
@[go_sem]theorem kjt:type_of% @bb3.eq_1:=nq @bb3.eq_1
@[go_sem]theorem kjs:type_of% @bb3.eq_2:=nq @bb3.eq_2
@[go_sem]theorem kjz:type_of% @ab3.eq_1:=nq @ab3.eq_1
@[go_sem]theorem kjy:type_of% @ab3.eq_2:=nq @ab3.eq_2
@[go_sem]theorem kxH:type_of% @fgM.eq_1:=nq @fgM.eq_1
@[go_sem]theorem kxG:type_of% @fgM.eq_2:=nq @fgM.eq_2
@[go_sem]theorem kxJ:type_of% @fgB.eq_1:=nq @fgB.eq_1
@[go_sem]theorem kxI:type_of% @fgB.eq_2:=nq @fgB.eq_2
@[go_sem]theorem jkj:type_of% @delL.eq_1:=nq @delL.eq_1
@[go_sem]theorem jki:type_of% @delL.eq_2:=nq @delL.eq_2
@[go_sem]theorem jwV:type_of% @unC.eq_1:=nq @unC.eq_1
@[go_sem]theorem jwU:type_of% @unC.eq_2:=nq @unC.eq_2
@[go_sem]theorem jxs:type_of% @outU.eq_1:=nq @outU.eq_1
@[go_sem]theorem jxr:type_of% @outU.eq_2:=nq @outU.eq_2
@[go_sem]theorem S.back_e1:type_of% @S.back.eq_1:=nq @S.back.eq_1
@[go_sem]theorem jqX:type_of% @puta.eq_1:=nq @puta.eq_1
@[go_sem]theorem jqW:type_of% @puta.eq_2:=nq @puta.eq_2
@[go_sem]theorem kqi:type_of% @okD.eq_1:=nq @okD.eq_1
@[go_sem]theorem kqh:type_of% @okD.eq_2:=nq @okD.eq_2
@[go_sem]theorem jx8:type_of% @one1.eq_1:=nq @one1.eq_1
@[go_sem]theorem jx7:type_of% @one1.eq_2:=nq @one1.eq_2
@[go_sem]theorem kzK:type_of% @prt.eq_1:=nq @prt.eq_1
@[go_sem]theorem jvf:type_of% @allD.eq_1:=nq @allD.eq_1
@[go_sem]theorem jve:type_of% @allD.eq_2:=nq @allD.eq_2
@[go_sem]theorem jvd:type_of% @allD.eq_3:=nq @allD.eq_3
@[go_sem]theorem yvM:type_of% @fillP.eq_1:=nq @fillP.eq_1
@[go_sem]theorem yvL:type_of% @fillP.eq_2:=nq @fillP.eq_2
@[go_sem]theorem ykA:type_of% @place.eq_1:=nq @place.eq_1
@[go_sem]theorem yxu:type_of% @fldOff.eq_1:=nq @fldOff.eq_1
@[go_sem]theorem S.ev_e1:type_of% @S.ev.eq_1:=nq @S.ev.eq_1
@[go_sem]theorem S.ev_e2:type_of% @S.ev.eq_2:=nq @S.ev.eq_2
@[go_sem]theorem S.ev_e3:type_of% @S.ev.eq_3:=nq @S.ev.eq_3
@[go_sem]theorem S.ev_e4:type_of% @S.ev.eq_4:=nq @S.ev.eq_4
@[go_sem]theorem S.evs_e1:type_of% @S.evs.eq_1:=nq @S.evs.eq_1
@[go_sem]theorem S.evs_e2:type_of% @S.evs.eq_2:=nq @S.evs.eq_2
@[go_sem]theorem S.pt_e1:type_of% @S.pt.eq_1:=nq @S.pt.eq_1
@[go_sem]theorem S.pt_e2:type_of% @S.pt.eq_2:=nq @S.pt.eq_2
@[go_sem]theorem S.nb_e1:type_of% @S.nb.eq_1:=nq @S.nb.eq_1
@[go_sem]theorem S.na_e1:type_of% @S.na.eq_1:=nq @S.na.eq_1
@[go_sem]theorem D.el_e1:type_of% @D.el.eq_1:=nq @D.el.eq_1
@[go_sem]theorem kxR:type_of% @dOk.eq_1:=nq @dOk.eq_1
@[go_sem]theorem kxQ:type_of% @dOk.eq_2:=nq @dOk.eq_2
@[go_sem]theorem fgt_e1:type_of% @fgt.eq_1:=nq @fgt.eq_1
@[go_sem]theorem kxF:type_of% @fgt.eq_2:=nq @fgt.eq_2
@[go_sem]theorem kxE:type_of% @fgt.eq_3:=nq @fgt.eq_3
@[go_sem]theorem kxD:type_of% @fgt.eq_4:=nq @fgt.eq_4
@[go_sem]theorem kxC:type_of% @fgt.eq_5:=nq @fgt.eq_5
@[go_sem]theorem kxB:type_of% @fgt.eq_6:=nq @fgt.eq_6
@[go_sem]theorem kxA:type_of% @fgt.eq_7:=nq @fgt.eq_7
@[go_sem]theorem kx9:type_of% @fgt.eq_8:=nq @fgt.eq_8
@[go_sem]theorem kx8:type_of% @fgt.eq_9:=nq @fgt.eq_9
@[go_sem]theorem jka:type_of% @fgts.eq_1:=nq @fgts.eq_1
@[go_sem]theorem jjZ:type_of% @fgts.eq_2:=nq @fgts.eq_2
@[go_sem]theorem Box.fgt_e1:type_of% @Box.fgt.eq_1:=nq @Box.fgt.eq_1
@[go_sem]theorem kzx:type_of% @rns.eq_1:=nq @rns.eq_1
@[go_sem]theorem kzw:type_of% @rns.eq_2:=nq @rns.eq_2
@[go_sem]theorem jqJ:type_of% @rnrs.eq_1:=nq @rnrs.eq_1
@[go_sem]theorem jqI:type_of% @rnrs.eq_2:=nq @rnrs.eq_2
@[go_sem]theorem jqQ:type_of% @rens.eq_1:=nq @rens.eq_1
@[go_sem]theorem jqP:type_of% @rens.eq_2:=nq @rens.eq_2
@[go_sem]theorem jjo:type_of% @kyss.eq_1:=nq @kyss.eq_1
@[go_sem]theorem jjn:type_of% @kyss.eq_2:=nq @kyss.eq_2
@[go_sem]theorem jjt:type_of% @ixof.eq_1:=nq @ixof.eq_1
@[go_sem]theorem jjs:type_of% @ixof.eq_2:=nq @ixof.eq_2
@[go_sem]theorem yvc:type_of% @nodup.eq_1:=nq @nodup.eq_1
@[go_sem]theorem yvb:type_of% @nodup.eq_2:=nq @nodup.eq_2
@[go_sem]theorem kqn:type_of% @nth.eq_1:=nq @nth.eq_1
@[go_sem]theorem kqk:type_of% @okB.eq_1:=nq @okB.eq_1
@[go_sem]theorem kqj:type_of% @okB.eq_2:=nq @okB.eq_2
@[go_sem]theorem jxw:type_of% @outB.eq_1:=nq @outB.eq_1
@[go_sem]theorem jxv:type_of% @outB.eq_2:=nq @outB.eq_2
@[go_sem]theorem kqb (j:Nat):one (.mp j)=true:=(rfl)
@[go_sem]theorem yqR (j:Nat):qqg (.mp j)=none:=(rfl)
@[go_sem]theorem kzO (j:Nat):pcs (.mp j)=some [.mp j]:=(rfl)
@[go_sem]theorem jva (j:Nat)(l:List LV):allD (.mp j::l)=none:=(rfl)
@[go_sem]theorem kzC (ks:List Nat)(j:Nat):ren ks (.mp j)=.mp (1000+ixof j ks):=(rfl)
@[go_sem]theorem kkq (q:Option Nat)(j:Nat):rn q (.mp j)=.un:=(rfl)
@[go_sem]theorem kz0 (r:Nat)(j:Nat):rnr r (.mp j)=.un:=(rfl)
@[go_sem]theorem kqL (j:Nat):kys (.mp j)=[j]:=(rfl)
@[go_sem]theorem kx7 (k j:Nat):fgt k (.mp j)=if j=k then .un else .mp j:=by rw[Lx.fgt]
@[go_sem]theorem S.nm_eq (s:S)(d:Nat):s.nm d={n:=s.n,tm:=put d (.mp d) (mapf (fgt d) s.tm),bx:=put d ⟨[],1000000⟩ (mapf (Box.fgt d) s.bx),ar:=s.ar}:=(rfl)
@[go_sem]theorem yxi (v:Value):isC (.const v)=true:=(rfl)
@[go_sem]theorem jjy (n:Nat):isC (.tmp n)=false:=(rfl)
@[go_sem]theorem jjq (i:TI)(k:IntKind)(n:Int):kof i (.int k n)=match i.desc with|.int k'=>decide (k=k')|_=>false:=(rfl)
@[go_sem]theorem kqS (i:TI)(b:Bs):kof i (.st b)=match i.desc with|.str=>true|_=>false:=(rfl)
@[go_sem]theorem jjr (k k':IntKind)(a b:Int):keq (.int k a) (.int k' b)=(decide (k=k')&&a==b):=(rfl)
@[go_sem]theorem kqU (a b:Bs):keq (.st a) (.st b)=(a==b):=(rfl)
@[go_sem]theorem yqG (i:TI):qkX i []=true:=(rfl)
@[go_sem]theorem wwp (i:TI)(k:D)(x:LV)(r:List LV):qkX i (.d k::x::r)=(kof i k&&qkX i r):=(rfl)
@[go_sem]theorem yqH (k:D):qkA k []=none:=(rfl)
@[go_sem]theorem wwq (k k':D)(x:LV)(r:List LV):qkA k (.d k'::x::r)=if keq k k' then some 0 else(qkA k r).map (· +1):=(rfl)
@[go_sem]theorem jxI (cs:List LV)(k:D)(x:LV):mset cs k x=match qkA k cs with
  |some i=>cs.set (2*i+1) x
  |none=>cs++[.d k,x]:=(rfl)
@[go_sem]theorem yzQ:qkN []=some []:=(rfl)
@[go_sem]theorem wwd (k:IntKind)(n:Int)(r:List LV):qkN (.d (.int k n)::r)=(qkN r).map (n.toNat:: ·):=(rfl)
@[go_sem]theorem kkG (r n:Nat)(x:D)(j z m:Nat):fz r n x (.os j z m)=if j=r then(if m=n then .d x else .un)else .os j z m:=by rw[Lx.fz]
@[go_sem]theorem kkM (r n:Nat)(x:D)(xs:List LV):fz r n x (.ag xs)=.ag (fzs r n x xs):=by rw[Lx.fz]
@[go_sem]theorem kkK (r n:Nat)(x:D)(j o:Nat):fz r n x (.bp j o)=.bp j o:=by rw[Lx.fz]
@[go_sem]theorem kkH (r n:Nat)(x:D)(j:Nat):fz r n x (.mp j)=.mp j:=by rw[Lx.fz]
@[go_sem]theorem kkL (r n:Nat)(x:D)(j z m i o:Nat):fz r n x (.ap j z m i o)=.ap j z m i o:=by rw[Lx.fz]
@[go_sem]theorem kv0 (r n:Nat)(x y:D):fz r n x (.d y)=.d y:=by rw[Lx.fz]
@[go_sem]theorem kkJ (r n:Nat)(x y:D)(o:Nat):fz r n x (.ep y o)=.ep y o:=by rw[Lx.fz]
@[go_sem]theorem kkE (r n:Nat)(x:D):fz r n x .un=.un:=by rw[Lx.fz]
@[go_sem]theorem kkI (r n:Nat)(x:D)(f:Fn)(xs ys:List LV):fz r n x (.fn f xs ys)=.fn f (fzs r n x xs) (fzs r n x ys):=by rw[Lx.fz]
@[go_sem]theorem kxv (r n:Nat)(x:D)(xs:List LV):fz r n x (.tup xs)=.tup (fzs r n x xs):=by rw[Lx.fz]
@[go_sem]theorem jjD (r n:Nat)(x:D):fzs r n x []=[]:=by rw[Lx.fzs]
@[go_sem]theorem yv4 (r n:Nat)(x:D)(y:LV)(ys:List LV):fzs r n x (y::ys)=fz r n x y::fzs r n x ys:=by rw[Lx.fzs]
@[go_sem]theorem kvl (r n:Nat)(x:D)(cs:List LV)(t:TypeId):Box.fz r n x ⟨cs,t⟩=⟨fzs r n x cs,t⟩:=(rfl)
@[go_sem]theorem ykV (k:IntKind)(n:Int):one (.d (.int k n))=true:=(rfl)
@[go_sem]theorem yq5 (b:Bool):one (.d (.bool b))=true:=(rfl)
@[go_sem]theorem jx4 (b:Bs):one (.d (.st b))=true:=(rfl)
@[go_sem]theorem jx6 (xs:List D):one (.d (.ag xs))=false:=(rfl)
@[go_sem]theorem jx5 (z:Nat)(xs:List D)(f:Bool):one (.d (.sl z xs f))=true:=(rfl)
@[go_sem]theorem ykX (t:TypeId)(x:D):one (.d (.ifc t x))=true:=(rfl)
@[go_sem]theorem ykW (v:Value):one (.d (.imm v))=v.oneCell':=(rfl)
@[go_sem]theorem kqe (j o:Nat):one (.bp j o)=true:=(rfl)
@[go_sem]theorem kqa (j z n:Nat):one (.os j z n)=true:=(rfl)
@[go_sem]theorem kqf (j z n i o:Nat):one (.ap j z n i o)=true:=(rfl)
@[go_sem]theorem kqd (x:D)(o:Nat):one (.ep x o)=true:=(rfl)
@[go_sem]theorem kqg (xs:List LV):one (.ag xs)=false:=(rfl)
@[go_sem]theorem kqc (f:Fn)(xs ys:List LV):one (.fn f xs ys)=true:=(rfl)
@[go_sem]theorem jx3 (xs:List LV):one (.tup xs)=false:=(rfl)
@[go_sem]theorem kzY:one (.un)=false:=(rfl)
@[go_sem]theorem kxX (k:IntKind)(n:Int):D.cs (.int k n)=[.int k n]:=(rfl)
@[go_sem]theorem jjj (k:IntKind)(n:Int):D.lcs (.int k n)=[.d (.int k n)]:=(rfl)
@[go_sem]theorem yvF (k:IntKind)(n:Int):D.flat (.int k n)=true:=(rfl)
@[go_sem]theorem wkV (k:IntKind)(n:Int):qqg (.d (.int k n))=none:=(rfl)
@[go_sem]theorem jkr (b:Bool):D.cs (.bool b)=[.bool b]:=(rfl)
@[go_sem]theorem yvw (b:Bool):D.lcs (.bool b)=[.d (.bool b)]:=(rfl)
@[go_sem]theorem yxv (b:Bool):D.flat (.bool b)=true:=(rfl)
@[go_sem]theorem wja (b:Bool):qqg (.d (.bool b))=none:=(rfl)
@[go_sem]theorem kkU (b:Bs):D.cs (.st b)=[.st b]:=(rfl)
@[go_sem]theorem kqG (b:Bs):D.lcs (.st b)=[.d (.st b)]:=(rfl)
@[go_sem]theorem jjV (b:Bs):D.flat (.st b)=true:=(rfl)
@[go_sem]theorem wws (b:Bs):qqg (.d (.st b))=none:=(rfl)
@[go_sem]theorem kkW (xs:List D):D.cs (.ag xs)=xs:=(rfl)
@[go_sem]theorem kqI (xs:List D):D.lcs (.ag xs)=xs.map .d:=(rfl)
@[go_sem]theorem jjX (xs:List D):D.flat (.ag xs)=true:=(rfl)
@[go_sem]theorem wwu (xs:List D):qqg (.d (.ag xs))=some (xs.map .d):=(rfl)
@[go_sem]theorem kkV (z:Nat)(xs:List D)(f:Bool):D.cs (.sl z xs f)=[.sl z xs f]:=(rfl)
@[go_sem]theorem kqH (z:Nat)(xs:List D)(f:Bool):D.lcs (.sl z xs f)=[.d (.sl z xs f)]:=(rfl)
@[go_sem]theorem jjW (z:Nat)(xs:List D)(f:Bool):D.flat (.sl z xs f)=true:=(rfl)
@[go_sem]theorem wwt (z:Nat)(xs:List D)(f:Bool):qqg (.d (.sl z xs f))=none:=(rfl)
@[go_sem]theorem kxZ (t:TypeId)(x:D):D.cs (.ifc t x)=[.ifc t x]:=(rfl)
@[go_sem]theorem jjl (t:TypeId)(x:D):D.lcs (.ifc t x)=[.d (.ifc t x)]:=(rfl)
@[go_sem]theorem yvH (t:TypeId)(x:D):D.flat (.ifc t x)=true:=(rfl)
@[go_sem]theorem wkX (t:TypeId)(x:D):qqg (.d (.ifc t x))=none:=(rfl)
@[go_sem]theorem kxY (v:Value):D.cs (.imm v)=[.imm v]:=(rfl)
@[go_sem]theorem jjk (v:Value):D.lcs (.imm v)=[.d (.imm v)]:=(rfl)
@[go_sem]theorem yvG (v:Value):D.flat (.imm v)=v.oneCell':=(rfl)
@[go_sem]theorem wkW (v:Value):qqg (.d (.imm v))=none:=(rfl)
@[go_sem]theorem yqU (j o:Nat):qqg (.bp j o)=none:=(rfl)
@[go_sem]theorem yqQ (j z n:Nat):qqg (.os j z n)=none:=(rfl)
@[go_sem]theorem yqV (j z n i o:Nat):qqg (.ap j z n i o)=none:=(rfl)
@[go_sem]theorem yqT (x:D)(o:Nat):qqg (.ep x o)=none:=(rfl)
@[go_sem]theorem yqW (xs:List LV):qqg (.ag xs)=some xs:=(rfl)
@[go_sem]theorem yqS (f:Fn)(xs ys:List LV):qqg (.fn f xs ys)=none:=(rfl)
@[go_sem]theorem wwr (xs:List LV):qqg (.tup xs)=none:=(rfl)
@[go_sem]theorem yqP:qqg (.un)=none:=(rfl)
@[go_sem]theorem kjv (z sz:Nat)(xs:List D)(f:Bool):D.asl z (.sl sz xs f)=if sz=z then some (xs,f)else none:=(rfl)
@[go_sem]theorem jkT (z:Nat):D.asl z (.imm (.slice none 0 0))=some ([],true):=(rfl)
@[go_sem]theorem kxV (k:IntKind)(n:Int):cv (.int k n)=.d (.int k n):=(rfl)
@[go_sem]theorem jkp (b:Bool):cv (.bool b)=.d (.bool b):=(rfl)
@[go_sem]theorem kxT (b:ByteArray):cv (.string b)=.d (.st b.data.toList):=(rfl)
@[go_sem]theorem yvV (p:Option Addr)(n m:Nat):cv (.slice p n m)=.d (.imm (.slice p n m)):=(rfl)
@[go_sem]theorem kxU (p:Option Addr):cv (.pointer p)=.d (.imm (.pointer p)):=(rfl)
@[go_sem]theorem wv7:cv .nilIface=.d (.imm .nilIface):=(rfl)
@[go_sem]theorem kxW (cs:Array Value):cv (.agg cs)=.d (.ag (cs.toList.map cvd)):=(rfl)
@[go_sem]theorem jko (k:IntKind)(n:Int):cvd (.int k n)=.int k n:=(rfl)
@[go_sem]theorem yvU (b:Bool):cvd (.bool b)=.bool b:=(rfl)
@[go_sem]theorem jkn (b:ByteArray):cvd (.string b)=.st b.data.toList:=(rfl)
@[go_sem]theorem yx5 (p:Option Addr)(n m:Nat):cvd (.slice p n m)=.imm (.slice p n m):=(rfl)
@[go_sem]theorem yva (p:Option Addr)(n m:Nat):(Value.slice p n m).oneCell'=true:=(rfl)
@[go_sem]theorem kql (p:Option Addr):(Value.pointer p).oneCell'=true:=(rfl)
@[go_sem]theorem wkD:Value.nilIface.oneCell'=true:=(rfl)
@[go_sem]theorem kzT (xs:List LV):pcs (.ag xs)=some xs:=(rfl)
@[go_sem]theorem jxe (xs:List D):pcs (.d (.ag xs))=some (xs.map .d):=(rfl)
@[go_sem]theorem ykC (k:IntKind)(n:Int):pcs (.d (.int k n))=some [.d (.int k n)]:=(rfl)
@[go_sem]theorem yqn (b:Bool):pcs (.d (.bool b))=some [.d (.bool b)]:=(rfl)
@[go_sem]theorem jxc (b:Bs):pcs (.d (.st b))=some [.d (.st b)]:=(rfl)
@[go_sem]theorem jxd (z:Nat)(xs:List D)(f:Bool):pcs (.d (.sl z xs f))=some [.d (.sl z xs f)]:=(rfl)
@[go_sem]theorem ykE (t:TypeId)(x:D):pcs (.d (.ifc t x))=some [.d (.ifc t x)]:=(rfl)
@[go_sem]theorem ykD (v:Value):pcs (.d (.imm v))=if v.oneCell'=true then some [.d (.imm v)]else none:=(rfl)
@[go_sem]theorem kzR (j o:Nat):pcs (.bp j o)=some [.bp j o]:=(rfl)
@[go_sem]theorem kzN (j z n:Nat):pcs (.os j z n)=some [.os j z n]:=(rfl)
@[go_sem]theorem kzS (j z n i o:Nat):pcs (.ap j z n i o)=some [.ap j z n i o]:=(rfl)
@[go_sem]theorem kzQ (x:D)(o:Nat):pcs (.ep x o)=some [.ep x o]:=(rfl)
@[go_sem]theorem kzP (f:Fn)(xs ys:List LV):pcs (.fn f xs ys)=some [.fn f xs ys]:=(rfl)
@[go_sem]theorem jxb (xs:List LV):pcs (.tup xs)=none:=(rfl)
@[go_sem]theorem kzM:pcs (.un)=none:=(rfl)
def stP' (i:TI)(off:Nat)(cells:List LV):Option (List LV)->Option (List LV)
 |some cs=>if cs.length=i.size/\off+cs.length<=cells.length/\cs.all one then some (cells.take off++cs++cells.drop (off+cs.length))else none
 |none=>none
@[go_sem]theorem kzg (i:TI)(off:Nat)(x:LV)(cells:List LV):stP i off x cells=stP' i off cells (pcs x):=by unfold stP stP';cases pcs x<;>exact Eq.refl _
@[go_sem]theorem yzD (i:TI)(off:Nat)(cells cs:List LV):stP' i off cells (some cs)=if cs.length=i.size/\off+cs.length<=cells.length/\cs.all one then some (cells.take off++cs++cells.drop (off+cs.length))else none:=(rfl)
def mk' (xs:List LV):Option (List D)->LV
 |some ds=>.d (.ag ds)
 |none=>.ag xs
@[go_sem]theorem kkA (xs:List LV):mk xs=mk' xs (allD xs):=by unfold mk mk';cases allD xs<;>exact Eq.refl _
@[go_sem]theorem yvg (xs:List LV)(ds:List D):mk' xs (some ds)=.d (.ag ds):=(rfl)
@[go_sem]theorem yvh (xs:List LV):mk' xs none=.ag xs:=(rfl)
@[go_sem]theorem jvg (j o:Nat)(l:List LV):allD (.bp j o::l)=none:=(rfl)
@[go_sem]theorem jkZ (j z n:Nat)(l:List LV):allD (.os j z n::l)=none:=(rfl)
@[go_sem]theorem jvh (j z n i o:Nat)(l:List LV):allD (.ap j z n i o::l)=none:=(rfl)
@[go_sem]theorem jvc (x:D)(o:Nat)(l:List LV):allD (.ep x o::l)=none:=(rfl)
@[go_sem]theorem jvi (xs:List LV)(l:List LV):allD (.ag xs::l)=none:=(rfl)
@[go_sem]theorem jvb (f:Fn)(xs ys:List LV)(l:List LV):allD (.fn f xs ys::l)=none:=(rfl)
@[go_sem]theorem ywg (xs:List LV)(l:List LV):allD (.tup xs::l)=none:=(rfl)
@[go_sem]theorem jkY (l:List LV):allD (.un::l)=none:=(rfl)
@[go_sem]theorem kkw (ks:List Nat)(x:D):ren ks (.d x)=.d x:=(rfl)
@[go_sem]theorem kvw (q:Option Nat)(x:D):rn q (.d x)=.d x:=(rfl)
@[go_sem]theorem kkn (r:Nat)(x:D):rnr r (.d x)=.d x:=(rfl)
@[go_sem]theorem kkB (x:D):kys (.d x)=[]:=(rfl)
@[go_sem]theorem kzF (ks:List Nat)(j o:Nat):ren ks (.bp j o)=.bp (1000+ixof j ks) o:=(rfl)
@[go_sem]theorem kkt (q:Option Nat)(j o:Nat):rn q (.bp j o)=.un:=(rfl)
@[go_sem]theorem kz3 (r:Nat)(j o:Nat):rnr r (.bp j o)=.un:=(rfl)
@[go_sem]theorem kqO (j o:Nat):kys (.bp j o)=[j]:=(rfl)
@[go_sem]theorem kzB (ks:List Nat)(j z n:Nat):ren ks (.os j z n)=.un:=(rfl)
@[go_sem]theorem kkp (q:Option Nat)(j z n:Nat):rn q (.os j z n)=if j=0 then(match q with|some d=>.os d z n|none=>.un)else .un:=(rfl)
@[go_sem]theorem kzz (r:Nat)(j z n:Nat):rnr r (.os j z n)=if j=r then .os 0 z n else .un:=(rfl)
@[go_sem]theorem kqK (j z n:Nat):kys (.os j z n)=[]:=(rfl)
@[go_sem]theorem kzG (ks:List Nat)(j z n i o:Nat):ren ks (.ap j z n i o)=.un:=(rfl)
@[go_sem]theorem kku (q:Option Nat)(j z n i o:Nat):rn q (.ap j z n i o)=.un:=(rfl)
@[go_sem]theorem kz4 (r:Nat)(j z n i o:Nat):rnr r (.ap j z n i o)=.un:=(rfl)
@[go_sem]theorem kqP (j z n i o:Nat):kys (.ap j z n i o)=[]:=(rfl)
@[go_sem]theorem kzE (ks:List Nat)(x:D)(o:Nat):ren ks (.ep x o)=.ep x o:=(rfl)
@[go_sem]theorem kks (q:Option Nat)(x:D)(o:Nat):rn q (.ep x o)=.ep x o:=(rfl)
@[go_sem]theorem kz2 (r:Nat)(x:D)(o:Nat):rnr r (.ep x o)=.un:=(rfl)
@[go_sem]theorem kqN (x:D)(o:Nat):kys (.ep x o)=[]:=(rfl)
@[go_sem]theorem kzH (ks:List Nat)(xs:List LV):ren ks (.ag xs)=.ag (rens ks xs):=(rfl)
@[go_sem]theorem kkv (q:Option Nat)(xs:List LV):rn q (.ag xs)=.ag (rns q xs):=(rfl)
@[go_sem]theorem kz5 (r:Nat)(xs:List LV):rnr r (.ag xs)=.ag (rnrs r xs):=(rfl)
@[go_sem]theorem kqQ (xs:List LV):kys (.ag xs)=kyss xs:=(rfl)
@[go_sem]theorem kzD (ks:List Nat)(f:Fn)(xs ys:List LV):ren ks (.fn f xs ys)=.fn f (rens ks xs) (rens ks ys):=(rfl)
@[go_sem]theorem kkr (q:Option Nat)(f:Fn)(xs ys:List LV):rn q (.fn f xs ys)=.un:=(rfl)
@[go_sem]theorem kz1 (r:Nat)(f:Fn)(xs ys:List LV):rnr r (.fn f xs ys)=.un:=(rfl)
@[go_sem]theorem kqM (f:Fn)(xs ys:List LV):kys (.fn f xs ys)=kyss xs++kyss ys:=(rfl)
@[go_sem]theorem jqR (ks:List Nat)(xs:List LV):ren ks (.tup xs)=.tup (rens ks xs):=(rfl)
@[go_sem]theorem kz6 (q:Option Nat)(xs:List LV):rn q (.tup xs)=.tup (rns q xs):=(rfl)
@[go_sem]theorem jqK (r:Nat)(xs:List LV):rnr r (.tup xs)=.tup (rnrs r xs):=(rfl)
@[go_sem]theorem jjp (xs:List LV):kys (.tup xs)=kyss xs:=(rfl)
@[go_sem]theorem kzA (ks:List Nat):ren ks (.un)=.un:=(rfl)
@[go_sem]theorem kko (q:Option Nat):rn q (.un)=.un:=(rfl)
@[go_sem]theorem kzy (r:Nat):rnr r (.un)=.un:=(rfl)
@[go_sem]theorem kqJ:kys (.un)=[]:=(rfl)
@[go_sem]theorem yk3 (s:S)(d:Nat)(ks:List Nat)(x:LV)(bx':Bx)(a:Nat×TypeId×List D):S.ret s (some d) ks x bx' (some a)={n:=s.n,tm:=put d (rn (some d) x) (mapf (fgt d) s.tm),bx:=mapf (Box.fgt d) (mrg ks bx' s.bx),ar:=put d a s.ar}:=(rfl)
@[go_sem]theorem yk4 (s:S)(d:Option Tmp)(ks:List Nat)(x:LV)(bx':Bx):S.ret s d ks x bx' none=S.pt {s with bx:=mrg ks bx' s.bx} d (rn none x):=(rfl)
attribute [go_sem] inr
@[go_sem]theorem jkk:ddp []=[]:=(rfl)
@[go_sem]theorem yvT (k:Nat)(l:List Nat):ddp (k::l)=if l.contains k then ddp l else k::ddp l:=(rfl)
@[go_sem]theorem jxK (bx' bx:Bx):mrg [] bx' bx=bx:=(rfl)
@[go_sem]theorem wkK (k:Nat)(B:Box)(bx:Bx):mrg [k] (put 1000 B nix) bx=put k B bx:=by
  funext j;by_cases e:j=k;{subst e;simp[mrg,ixof,put]};{simp[mrg,put,e]}
@[go_sem]theorem jxJ (k k':Nat)(B B':Box)(bx:Bx):mrg [k,k'] (put 1000 B (put 1001 B' nix)) bx=put k B (put k' B' bx):=by
  funext j;by_cases e:j=k;{subst e;simp[mrg,ixof,put]};{by_cases e':j=k';{subst e';simp[mrg,ixof,put,e]};{simp[mrg,put,e,e']}}
@[go_sem]theorem kqy (k b:Nat)(B:Box)(f g:Bx):mrg [k] (put (b+1000000) B f) g=mrg [k] f g:=by
  funext j;by_cases e:j=k;{subst e;have:(1000:Nat)≠b+1000000:=by{omega};simp[mrg,ixof,put,this]};{simp[mrg,e]}
@[go_sem]theorem kqz (k:Nat)(f h g:Bx):mrg [k] (ovS f h) g=mrg [k] h g:=by
  funext j;by_cases e:j=k;{subst e;simp[mrg,ixof,ovS]};{simp[mrg,e]}
@[go_sem]theorem jqY {α:Type}(k:Nat)(x y:α)(f:Nat->Option α):put k x (put k y f)=put k x f:=by
  funext j;simp only[put];split<;>exact Eq.refl _
@[go_sem]theorem kxy (k:Nat)(bx:Bx):fp [k] bx 1000=bx k:=by simp[fp,nth]
def spL (l:List (Nat×SpecX)):FuncId->Option SpecX:=fun f=>lkp f l
@[go_sem]theorem jq2 (f:FuncId):spL [] f=none:=(rfl)
@[go_sem]theorem wzY (f j:FuncId)(Sp:SpecX)(l:List (Nat×SpecX)):spL ((j,Sp)::l) f=if f=j then some Sp else spL l f:=(rfl)
def OKs (P:Program):List (Nat×SpecX)->Prop
 |[]=>True
 |(f,Sp)::l=>OKX P f Sp/\OKs P l
theorem OKs.ok {P:Program}:∀{l:List (Nat×SpecX)},OKs P l->∀f Sp,spL l f=some Sp->OKX P f Sp
 |[],_,_,_,h=>by cases h
 |(j,Sq)::l,hl,f,Sp,h=>by
   rw[wzY]at h;split at h;{rename_i e;subst e;simp only[Option.some.injEq]at h;subst h;exact hl.1};exact OKs.ok hl.2 f Sp h
@[go_sem]theorem jjm (i:Nat):lay i []=nix:=(rfl)
@[go_sem]theorem yvx (i:Nat)(x:LV)(xs:List LV):lay i (x::xs)=put i x (lay (i+1) xs):=(rfl)
@[go_sem]theorem yk7:zwm []=nix:=(rfl)
@[go_sem]theorem yql (k:Nat)(b:Box)(l:List (Nat×Box)):zwm ((k,b)::l)=put k b (zwm l):=(rfl)
attribute [go_sem] id_eq List.take_length lE List.getElem?_toArray lB lH List.getElem?_cons_zero List.getElem?_cons_succ List.getElem?_nil List.map_cons List.map_nil List.all_cons List.all_nil List.take_succ_cons List.take_zero List.take_nil
 List.drop_succ_cons List.drop_zero List.drop_nil List.set_cons_zero List.set_cons_succ List.nil_append List.cons_append List.append_nil List.contains_cons List.contains_nil
 Option.map_some Option.map_none Option.bind_some Option.bind_none Option.some.injEq Option.isSome_some Option.isSome_none
 and_true true_and and_self false_and and_false forall_const if_true if_false Bool.not_true Bool.not_false Bool.true_and Bool.and_true Bool.and_self Bool.or_false Bool.false_or Bool.or_true Bool.true_or Bool.and_false Bool.false_and
 eq_self ite_true ite_false beq_self_eq_true Bool.true_eq_false Bool.false_eq_true imp_self false_imp_iff true_imp_iff not_true_eq_false not_false_eq_true ne_eq Int.toNat_zero Int.toNat_one
 exists_eq_left exists_eq_left' exists_prop forall_eq' forall_eq Prod.mk.injEq List.toList_toArray
end Lx
