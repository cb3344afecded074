import Derived.Test.YtkknljojdgpdaaaGreatDoorA07
import Derived.Test.YtkknljojdgpdaaaGreatDoorA08
set_option maxHeartbeats 32000000
set_option linter.unusedSimpArgs false
set_option linter.unusedVariables false
namespace Lx
open Go
attribute [go_sem] Int.natCast_pow Int.cast_ofNat_Int Int.natCast_mul Int.natCast_shiftLeft Int.natCast_emod Int.ofNat_sub Int.natCast_shiftRight Int.natCast_add_one Int.natCast_add Int.cast_id Int.natCast_sub Int.natCast_ediv Int.natCast_succ
attribute [go_sem] reduceIte dreduceIte reduceDIte dreduceDIte reduceCtorEq Nat.isValue Nat.reduceEqDiff Nat.reduceAdd Nat.reduceSub Nat.reduceMul Nat.reduceLT Nat.reduceGT Nat.reduceBEq Nat.reduceBNe Nat.reduceLeDiff Nat.reduceSubDiff Nat.reduceBeqDiff Nat.reduceBneDiff Nat.reduceSucc Nat.reduceDiv Nat.reduceMod Nat.reducePow Int.isPosValue Int.reduceLT Int.reduceLE Int.reduceGT Int.reduceGE Int.reduceToNat Int.reduceAdd Int.reduceSub Int.reduceMul Int.reduceNeg Int.reduceEq Int.reduceNe Int.reduceBEq Int.reduceBNe Int.reduceNegSucc Int.reduceNatCast Int.reduceNatCast' Int.reduceOfNat Int.reduceDiv Int.reduceMod Int.reduceTDiv Int.reduceTMod List.reduceReplicate Array.reduceGetElem Array.reduceGetElem?
@[go_sem]theorem n0a (n:Nat):0+n=n:=Nat.zero_add n
@[go_sem]theorem na0 (n:Nat):n+0=n:=rfl
@[go_sem]theorem n0l (n:Nat):(0<=n)=True:=eq_true (Nat.zero_le n)
@[go_sem]theorem nsn (n:Nat):(n+1=0)=False:=eq_false (Nat.succ_ne_zero n)
section
variable {α β:Type}{E:Env}{sp:FuncId->Option SpecX}
@[go_sem]theorem put_app (k j:Nat)(x:α)(f:Nat->Option α):put k x f j=if j=k then some x else f j:=(rfl)
@[go_sem]theorem mapf_del (h:α->β)(k:Nat)(f:Nat->Option α):mapf h (del k f)=del k (mapf h f):=by
  funext j;simp only[mapf,del];split<;>rfl
@[go_sem]theorem del_put_same (k:Nat)(x:α)(f:Nat->Option α):del k (put k x f)=del k f:=by
  funext j;simp only[del,put];split<;>rfl
@[go_sem]theorem del_nix (k:Nat):del k (nix:Nat->Option α)=nix:=by
  funext j;simp only[del];split<;>rfl
@[go_sem]theorem del_app (k j:Nat)(f:Nat->Option α):del k f j=if j=k then none else f j:=(rfl)
@[go_sem]theorem mapf_put (h:α->β)(k:Nat)(x:α)(f:Nat->Option α):mapf h (put k x f)=put k (h x) (mapf h f):=by
  funext j;unfold mapf put;split<;>rfl
@[go_sem]theorem mapf_nix (h:α->β):mapf h (nix:Nat->Option α)=nix:=(rfl)
@[go_sem]theorem nix_app (j:Nat):(nix:Nat->Option α) j=none:=(rfl)
end
theorem nr {α:Sort _}{a b:α}(h:a=b):a=b:=by cases h;exact Eq.refl _
structure Ph {α:Sort _}(a:α):Type where
def smW {α:Type}(o:Option α)(K:α->Prop)(_w:Ph K):Prop:=sm o K
def evW {α:Type}(x:α)(K:α->Prop)(_w:Ph K):Prop:=K x
def Hold (p:Prop)(_w:Ph p):Prop:=p
@[go_sem ↓]theorem sm_W {α:Type}(o:Option α)(K:α->Prop):sm o K=smW o K ⟨⟩:=(rfl)
@[go_sem]theorem smW_some {α:Type}(x:α)(K:α->Prop)(w:Ph K):smW (some x) K w=K x:=by simp[smW,sm]
@[go_sem]theorem smW_none {α:Type}(K:α->Prop)(w:Ph K):smW none K w=False:=by simp[smW,sm]
@[go_sem]theorem evW_eq {α:Type}(x:α)(K:α->Prop)(w:Ph K):evW x K w=K x:=(rfl)
theorem sm_use {α:Type}{o:Option α}{K:α->Prop}{w:Ph K}{x:α}(h:o=some x)(hK:K x):smW o K w:=⟨x,h,hK⟩
@[go_sem ↓]theorem cK_e1:type_of% @cK.eq_1:=by intros;apply nr;apply cK.eq_1<;>assumption
@[go_sem ↓]theorem cK_e3:type_of% @cK.eq_3:=by intros;apply nr;apply cK.eq_3<;>assumption
@[go_sem ↓]theorem cK_e4:type_of% @cK.eq_4:=by intros;apply nr;apply cK.eq_4<;>assumption
@[go_sem ↓]theorem cK_e5:type_of% @cK.eq_5:=by intros;apply nr;apply cK.eq_5<;>assumption
@[go_sem ↓]theorem cK_e6:type_of% @cK.eq_6:=by intros;apply nr;apply cK.eq_6<;>assumption
@[go_sem ↓]theorem cK_e7:type_of% @cK.eq_7:=by intros;apply nr;apply cK.eq_7<;>assumption
@[go_sem ↓]theorem cK_e9:type_of% @cK.eq_9:=by intros;apply nr;apply cK.eq_9<;>assumption
@[go_sem ↓]theorem cK_e10:type_of% @cK.eq_10:=by intros;apply nr;apply cK.eq_10<;>assumption
@[go_sem ↓]theorem valK_e1:type_of% @valK.eq_1:=by intros;apply nr;apply valK.eq_1<;>assumption
@[go_sem ↓]theorem valK_e2:type_of% @valK.eq_2:=by intros;apply nr;apply valK.eq_2<;>assumption
@[go_sem ↓]theorem valK_e3:type_of% @valK.eq_3:=by intros;apply nr;apply valK.eq_3<;>assumption
@[go_sem ↓]theorem valK_e4:type_of% @valK.eq_4:=by intros;apply nr;apply valK.eq_4<;>assumption
@[go_sem ↓]theorem valK_e5:type_of% @valK.eq_5:=by intros;apply nr;apply valK.eq_5<;>assumption
@[go_sem ↓]theorem valK_e6:type_of% @valK.eq_6:=by intros;apply nr;apply valK.eq_6<;>assumption
@[go_sem ↓]theorem valK_e7:type_of% @valK.eq_7:=by intros;apply nr;apply valK.eq_7<;>assumption
@[go_sem ↓]theorem valK_e8:type_of% @valK.eq_8:=by intros;apply nr;apply valK.eq_8<;>assumption
@[go_sem ↓]theorem valK_e9:type_of% @valK.eq_9:=by intros;apply nr;apply valK.eq_9<;>assumption
@[go_sem ↓]theorem valK_e10:type_of% @valK.eq_10:=by intros;apply nr;apply valK.eq_10<;>assumption
@[go_sem ↓]theorem valK_e11:type_of% @valK.eq_11:=by intros;apply nr;apply valK.eq_11<;>assumption
@[go_sem ↓]theorem valK_e12:type_of% @valK.eq_12:=by intros;apply nr;apply valK.eq_12<;>assumption
@[go_sem ↓]theorem valK_e13:type_of% @valK.eq_13:=by intros;apply nr;apply valK.eq_13<;>assumption
@[go_sem ↓]theorem valK_e14:type_of% @valK.eq_14:=by intros;apply nr;apply valK.eq_14<;>assumption
@[go_sem ↓]theorem valK_e15:type_of% @valK.eq_15:=by intros;apply nr;apply valK.eq_15<;>assumption
@[go_sem ↓]theorem valK_e16:type_of% @valK.eq_16:=by intros;apply nr;apply valK.eq_16<;>assumption
@[go_sem ↓]theorem valK_e17:type_of% @valK.eq_17:=by intros;apply nr;apply valK.eq_17<;>assumption
@[go_sem ↓]theorem valK_e18:type_of% @valK.eq_18:=by intros;apply nr;apply valK.eq_18<;>assumption
@[go_sem ↓]theorem valK_e19:type_of% @valK.eq_19:=by intros;apply nr;apply valK.eq_19<;>assumption
@[go_sem ↓]theorem storK_e1:type_of% @storK0.eq_1:=by intros;apply nr;apply storK0.eq_1<;>assumption
@[go_sem ↓]theorem storK_bp (E:Env)(s:S)(t:TypeId)(k o:Nat)(x:LV)(K:S->Prop):storK E s t (.bp k o) x K=storK0 E s t (.bp k o) x K:=(rfl)
@[go_sem ↓]theorem storK_ap (E:Env)(s:S)(t:TypeId)(r z n j o:Nat)(x:LV)(K:S->Prop):storK E s t (.ap r z n j o) x K=storK0 E s t (.ap r z n j o) x K:=(rfl)
@[go_sem ↓]theorem storK_sp (E:Env)(s:S)(t:TypeId)(b o:Nat)(x:LV)(K:S->Prop):storK E s t (.d (.imm (.pointer (some ⟨b,o,none⟩)))) x K=(E.hp=true/\storK0 E s t (.bp (b+1000000) o) x K):=(rfl)
@[go_sem ↓]theorem boxK_e1:type_of% @boxK.eq_1:=by intros;apply nr;apply boxK.eq_1<;>assumption
@[go_sem ↓]theorem bslK_e1:type_of% @bslK.eq_1:=by intros;apply nr;apply bslK.eq_1<;>assumption
@[go_sem ↓]theorem appK_e1:type_of% @appK0.eq_1:=by intros;apply nr;apply appK0.eq_1<;>assumption
@[go_sem ↓]theorem appK_some (E:Env)(s:S)(d:Nat)(t:TypeId)(x y:LV)(K:S->Prop):appK E s (some d) t x y K=if E.st d then sm (E.ti t) fun ti=>
   match ti.desc with
   |.sli e=>sm (E.ti e) fun te=>0<te.size/\e<1000000/\d<s.n/\match y with
     |.d y=>appY E s d e te x y K
     |_=>False
   |_=>False
  else appK0 E s (some d) t x y K:=by
  unfold appK;simp only[Option.map_some,Option.getD_some]
  congr
  funext ti
  cases ti.desc<;>rfl
@[go_sem ↓]theorem appY_sl (E:Env)(s:S)(d:Nat)(e:TypeId)(te:TI)(x:LV)(z:Nat)(xs:List D)(f:Bool)(K:S->Prop):appY E s d e te x (.sl z xs f) K=sm ((D.sl z xs f).asl te.size) fun q=>evW q.1 (fun ys=>appS E s d e te x ys K) ⟨⟩:=(rfl)
@[go_sem ↓]theorem appY_nil (E:Env)(s:S)(d:Nat)(e:TypeId)(te:TI)(x:LV)(n c:Nat)(K:S->Prop):appY E s d e te x (.imm (.slice none n c)) K=sm ((D.imm (.slice none n c)).asl te.size) fun q=>evW q.1 (fun ys=>appS E s d e te x ys K) ⟨⟩:=(rfl)
@[go_sem ↓]theorem appY_ss (E:Env)(s:S)(d:Nat)(e:TypeId)(te:TI)(x:LV)(b n c:Nat)(K:S->Prop):appY E s d e te x (.imm (.slice (some ⟨b,0,none⟩) n c)) K=(E.hp=true/\∃bb,s.bx (b+1000000)=some bb/\bb.ty=e/\∃ys:List D,ys.length=n/\ys.all (D.el te.size)=true/\bb.cells.take (n*te.size)=ys.flatMap D.lcs/\appS E s d e te x ys K):=(rfl)
@[go_sem ↓]theorem appS_eq (E:Env)(s:S)(d:Nat)(e:TypeId)(te:TI)(x:LV)(ys:List D)(K:S->Prop):appS E s d e te x ys K=(E.hp=true/\ys.all D.flat=true/\(vcs te.zero).all one=true/\Hold (match x.ss with
  |some p=>p.2.1=0/\sm (s.bx (p.1+1000000)) fun bb=>bb.ty=e/\p.2.2.2*te.size<=bb.cells.length/\(p.2.2.1+ys.length<=p.2.2.2->bb.cells.length=p.2.2.2*te.size)/\p.2.2.1<=p.2.2.2/\
    p.2.2.1+ys.length<=9223372036854775807/\(p.2.2.1+ys.length)*te.bytes<=140737488355328/\
    (ys=[]->K (s.pt (some d) x))/\
    (ys≠[]->∀b c,del (p.1+1000000) s.bx (b+1000000)=none->p.2.2.1+ys.length<=c->K (s.nSl d b (p.2.2.1+ys.length) c (elC te.size (p.2.2.1+ys.length) c (bb.cells.take (p.2.2.1*te.size)) ys) e (del (p.1+1000000) s.bx)))
  |none=>match x with
   |.d x=>sm (x.asl te.size) fun q=>q.1=[]/\q.2=true/\ys.length<=9223372036854775807/\ys.length*te.bytes<=140737488355328/\
     (ys=[]->K (s.pt (some d) (.d x)))/\(ys≠[]->∀b c,s.bx (b+1000000)=none->ys.length<=c->K (s.nSl d b ys.length c (elC te.size ys.length c [] ys) e s.bx))
   |_=>False) ⟨⟩):=(rfl)
@[go_sem ↓]theorem frz1_e1:type_of% @frz1.eq_1:=by intros;apply nr;apply frz1.eq_1<;>assumption
@[go_sem ↓]theorem frz1_e2:type_of% @frz1.eq_2:=by intros;apply nr;apply frz1.eq_2<;>assumption
@[go_sem ↓]theorem frzs_e1:type_of% @frzs.eq_1:=by intros;apply nr;apply frzs.eq_1<;>assumption
@[go_sem ↓]theorem frzs_e2:type_of% @frzs.eq_2:=by intros;apply nr;apply frzs.eq_2<;>assumption
@[go_sem ↓]theorem frzA_e1:type_of% @frzA.eq_1:=by intros;apply nr;apply frzA.eq_1<;>assumption
@[go_sem ↓]theorem frzA_e2:type_of% @frzA.eq_2:=by intros;apply nr;apply frzA.eq_2<;>assumption
@[go_sem ↓]theorem lnd1_e1:type_of% @lnd1.eq_1:=by intros;apply nr;apply lnd1.eq_1<;>assumption
@[go_sem ↓]theorem lnd1_e2:type_of% @lnd1.eq_2:=by intros;apply nr;apply lnd1.eq_2<;>assumption
@[go_sem ↓]theorem lnds_e1:type_of% @lnds.eq_1:=by intros;apply nr;apply lnds.eq_1<;>assumption
@[go_sem ↓]theorem lnds_e2:type_of% @lnds.eq_2:=by intros;apply nr;apply lnds.eq_2<;>assumption
@[go_sem ↓]theorem lndA_e1:type_of% @lndA.eq_1:=by intros;apply nr;apply lndA.eq_1<;>assumption
@[go_sem ↓]theorem lndA_e2:type_of% @lndA.eq_2:=by intros;apply nr;apply lndA.eq_2<;>assumption
@[go_sem ↓]theorem endK3_e2:type_of% @endK3.eq_2:=by intros;apply nr;apply endK3.eq_2<;>assumption
@[go_sem ↓]theorem endK3_e3:type_of% @endK3.eq_3:=by intros;apply nr;apply endK3.eq_3<;>assumption
@[go_sem ↓]theorem outK3_e1:type_of% @outK3.eq_1:=by intros;apply nr;apply outK3.eq_1<;>assumption
@[go_sem ↓]theorem frzE_e1:type_of% @frzE.eq_1:=by intros;apply nr;apply frzE.eq_1<;>assumption
@[go_sem ↓]theorem frzE_e2:type_of% @frzE.eq_2:=by intros;apply nr;apply frzE.eq_2<;>assumption
@[go_sem ↓]theorem frzR_e1:type_of% @frzR.eq_1:=by intros;apply nr;apply frzR.eq_1<;>assumption
@[go_sem ↓]theorem frzR_e2:type_of% @frzR.eq_2:=by intros;apply nr;apply frzR.eq_2<;>assumption
@[go_sem ↓]theorem endK_e2:type_of% @endK.eq_2:=by intros;apply nr;apply endK.eq_2<;>assumption
@[go_sem ↓]theorem endK_e3:type_of% @endK.eq_3:=by intros;apply nr;apply endK.eq_3<;>assumption
@[go_sem ↓]theorem resK_e1:type_of% @resK.eq_1:=by intros;apply nr;apply resK.eq_1<;>assumption
@[go_sem ↓]theorem resK_e2:type_of% @resK.eq_2:=by intros;apply nr;apply resK.eq_2<;>assumption
@[go_sem ↓]theorem resK_e3:type_of% @resK.eq_3:=by intros;apply nr;apply resK.eq_3<;>assumption
@[go_sem ↓]theorem outK_e1:type_of% @outK.eq_1:=by intros;apply nr;apply outK.eq_1<;>assumption
@[go_sem ↓]theorem outK_e2:type_of% @outK.eq_2:=by intros;apply nr;apply outK.eq_2<;>assumption
@[go_sem ↓]theorem arK_e1:type_of% @arK.eq_1:=by intros;apply nr;apply arK.eq_1<;>assumption
@[go_sem ↓]theorem intK_e1:type_of% @intK.eq_1:=by intros;apply nr;apply intK.eq_1<;>assumption
@[go_sem ↓]theorem intK_e2:type_of% @intK.eq_2:=by intros;apply nr;apply intK.eq_2<;>assumption
@[go_sem ↓]theorem intK_e3:type_of% @intK.eq_3:=by intros;apply nr;apply intK.eq_3<;>assumption
@[go_sem ↓]theorem intK_e4:type_of% @intK.eq_4:=by intros;apply nr;apply intK.eq_4<;>assumption
@[go_sem ↓]theorem intK_e5:type_of% @intK.eq_5:=by intros;apply nr;apply intK.eq_5<;>assumption
@[go_sem ↓]theorem intK_e6:type_of% @intK.eq_6:=by intros;apply nr;apply intK.eq_6<;>assumption
@[go_sem ↓]theorem intK_e7:type_of% @intK.eq_7:=by intros;apply nr;apply intK.eq_7<;>assumption
@[go_sem ↓]theorem intK_e8:type_of% @intK.eq_8:=by intros;apply nr;apply intK.eq_8<;>assumption
@[go_sem ↓]theorem intK_e9:type_of% @intK.eq_9:=by intros;apply nr;apply intK.eq_9<;>assumption
@[go_sem ↓]theorem intK_e10:type_of% @intK.eq_10:=by intros;apply nr;apply intK.eq_10<;>assumption
@[go_sem ↓]theorem intK_e11:type_of% @intK.eq_11:=by intros;apply nr;apply intK.eq_11<;>assumption
@[go_sem ↓]theorem stK_e1:type_of% @stK.eq_1:=by intros;apply nr;apply stK.eq_1<;>assumption
@[go_sem ↓]theorem stK_e2:type_of% @stK.eq_2:=by intros;apply nr;apply stK.eq_2<;>assumption
@[go_sem ↓]theorem stK_e3:type_of% @stK.eq_3:=by intros;apply nr;apply stK.eq_3<;>assumption
@[go_sem ↓]theorem binK_e1:type_of% @binK.eq_1:=by intros;apply nr;apply binK.eq_1<;>assumption
@[go_sem ↓]theorem binK_e2:type_of% @binK.eq_2:=by intros;apply nr;apply binK.eq_2<;>assumption
@[go_sem ↓]theorem binK_e3:type_of% @binK.eq_3:=by intros;apply nr;apply binK.eq_3<;>assumption
@[go_sem ↓]theorem binK_e4:type_of% @binK.eq_4:=by intros;apply nr;apply binK.eq_4<;>assumption
@[go_sem ↓]theorem hiK_e1:type_of% @hiK.eq_1:=by intros;apply nr;apply hiK.eq_1<;>assumption
@[go_sem ↓]theorem hiK_e2:type_of% @hiK.eq_2:=by intros;apply nr;apply hiK.eq_2<;>assumption
@[go_sem ↓]theorem loK_e1:type_of% @loK.eq_1:=by intros;apply nr;apply loK.eq_1<;>assumption
@[go_sem ↓]theorem loK_e2:type_of% @loK.eq_2:=by intros;apply nr;apply loK.eq_2<;>assumption
@[go_sem ↓]theorem bndK_e1:type_of% @bndK.eq_1:=by intros;apply nr;apply bndK.eq_1<;>assumption
@[go_sem ↓]theorem bldK_e1:type_of% @bldK.eq_1:=by intros;apply nr;apply bldK.eq_1<;>assumption
@[go_sem ↓]theorem thenK_e1:type_of% @thenK.eq_1:=by intros;apply nr;apply thenK.eq_1<;>assumption
@[go_sem ↓]theorem thenK_e2:type_of% @thenK.eq_2:=by intros;apply nr;apply thenK.eq_2<;>assumption
@[go_sem ↓]theorem thenK_e3:type_of% @thenK.eq_3:=by intros;apply nr;apply thenK.eq_3<;>assumption
@[go_sem ↓]theorem blkK_e1:type_of% @blkK.eq_1:=by intros;apply nr;apply blkK.eq_1<;>assumption
@[go_sem ↓]theorem blkK_e2:type_of% @blkK.eq_2:=by intros;apply nr;apply blkK.eq_2<;>assumption
@[go_sem ↓]theorem blkK_e3:type_of% @blkK.eq_3:=by intros;apply nr;apply blkK.eq_3<;>assumption
@[go_sem ↓]theorem endKS_n (E:Env)(rs:List ResultVar)(pk:List Nat)(Kr:LV->Bx->Ar1->Prop)(s:S):endKS E rs pk Kr .normal s=evW s (fun s=>Hold (finS E rs pk Kr s) ⟨⟩) ⟨⟩:=(rfl)
@[go_sem ↓]theorem endKS_r (E:Env)(rs:List ResultVar)(pk:List Nat)(Kr:LV->Bx->Ar1->Prop)(s:S):endKS E rs pk Kr .ret s=evW s (fun s=>Hold (finS E rs pk Kr s) ⟨⟩) ⟨⟩:=(rfl)
@[go_sem ↓]theorem frzN_nil (s:S)(K:S->Prop):frzN [] s K=evW s K ⟨⟩:=(rfl)
@[go_sem ↓]theorem frzN_cons (r:Nat)(l:List Nat)(s:S)(K:S->Prop):frzN (r::l) s K=sm (s.ar r) fun a=>frzN l {s with bx:=mapf (Box.fz r a.2.2.length (.sl a.1 a.2.2 false)) s.bx,ar:=del r s.ar} K:=(rfl)
theorem qz8 {E:Env}{rs:List ResultVar}{pk:List Nat}{Kr:LV->Bx->Ar1->Prop}{s:S}{w}(fl:List Nat)(h:frzN fl s fun s=>resK E rs s fun xs=>frzR s xs fun ds s'=>okD s'.bx pk/\evW (outB pk s'.bx) (fun ob=>evW (ovS s'.bx ob) (fun o=>Hold (∃es bf,D.les ds es/\subm o bf/\Kr (one1 es) bf none) ⟨⟩) ⟨⟩) ⟨⟩):Hold (finS E rs pk Kr s) w:=⟨fl,h⟩
@[go_sem ↓]theorem panS_eq (pk:List Nat)(Kp:D->Bx->Prop)(d:D)(s:S):panS pk Kp d s=(okD s.bx pk/\evW (outB pk s.bx) (fun ob=>evW (ovS s.bx ob) (fun o=>Hold (∃bf,subm o bf/\Kp d bf) ⟨⟩) ⟨⟩) ⟨⟩):=by
  show(∃bf,okD s.bx pk/\subm (outS pk s.bx) bf/\Kp d bf)=(okD s.bx pk/\∃bf,subm (outS pk s.bx) bf/\Kp d bf)
  apply propext;constructor
  ·rintro⟨bf,h1,h2,h3⟩;exact⟨h1,bf,h2,h3⟩
  ·rintro⟨h1,bf,h2,h3⟩;exact⟨bf,h1,h2,h3⟩
@[go_sem]theorem okPk_nil (bx:Bx):okPk bx []=True:=(rfl)
@[go_sem]theorem okPk_cons (bx:Bx)(k:Nat)(ks:List Nat):okPk bx (k::ks)=(1000<=k/\k<1000000/\(sm (bx k) fun _=>True)/\okPk bx ks):=(rfl)
structure O3 where
 d:Option Tmp
 op:Op
 g:Option (Nat×Bool)
def o3 (o:Oper):O3:=⟨o.dst,o.op,o.guard⟩
def O3.o (o:O3):Oper:=⟨o.d,o.op,0, "",#[],o.g⟩
def gs3 (ds:List (Option Tmp))(j:Nat):Option Nat:=(ds[j]?).bind id
def opK3 (E:Env)(sp:FuncId->Option SpecX)(d:Option Tmp)(op:Op)(s:S)(K:S->Prop)(Kp:D->S->Prop):Prop:=opK E sp ⟨d,op,0, "",#[],none⟩ s K Kp
def opsM (E:Env)(sp:FuncId->Option SpecX)(ds:List (Option Tmp)):List O3->S->(S->Prop)->(D->S->Prop)->Prop
 |[],s,K,_=>K s
 |⟨d,op,none⟩::l,s,K,Kp=>opK3 E sp d op s (fun s'=>opsM E sp ds l s' K Kp) Kp
 |⟨dd,op,some (j,want)⟩::l,s,K,Kp=>sm (gs3 ds j) fun d=>sm (s.tm d) fun x=>match x with
   |.d (.bool b)=>(b=want->opK3 E sp dd op {s with tm:=put d (.d (.bool want)) s.tm} (fun s'=>opsM E sp ds l s' K Kp) Kp)/\
      (b= !want->dOk s dd/\opsM E sp ds l (S.pt {s with tm:=put d (.d (.bool !want)) s.tm} dd (.tup [])) K Kp)
   |.tup []=>dOk s dd/\opsM E sp ds l (S.pt s dd (.tup [])) K Kp
   |_=>False
theorem opK_cast (E:Env)(sp:FuncId->Option SpecX)(o:Oper)(s:S)(K:S->Prop)(Kp:D->S->Prop):opK E sp o s K Kp=opK3 E sp o.dst o.op s K Kp:=by
 obtain⟨d,op,ty,pos,af,g⟩:=o;rfl
theorem gs3_eq (ops:Array Oper)(j:Nat):gsl ops j=gs3 (ops.toList.map (·.dst)) j:=by
 unfold gsl gs3;simp only[List.getElem?_map,Array.getElem?_toList];cases ops[j]?<;>simp
theorem zxy (E:Env)(sp:FuncId->Option SpecX)(ops:Array Oper):∀(l:List Oper) (s:S) (K:S->Prop) (Kp:D->S->Prop),opsL E sp ops l s K Kp=opsM E sp (ops.toList.map (·.dst)) (l.map o3) s K Kp
 |[],s,K,Kp=>rfl
 |o::l,s,K,Kp=>by
  obtain⟨d,op,ty,pos,af,g⟩:=o
  have ih:(fun s'=>opsL E sp ops l s' K Kp)=fun s'=>opsM E sp (ops.toList.map (·.dst)) (l.map o3) s' K Kp:=by
   funext s';exact zxy E sp ops l s' K Kp
  cases g with
  |none=>
   show opG E sp ops _ s (fun s'=>opsL E sp ops l s' K Kp) Kp=_
   rw[ih];rfl
  |some p=>
   obtain⟨j,want⟩:=p
   show opG E sp ops _ s (fun s'=>opsL E sp ops l s' K Kp) Kp=_
   rw[ih];unfold opG;simp only[gs3_eq];rfl
@[go_sem ↓]theorem cK_region (E:Env)(sp:FuncId->Option SpecX)(id:Nat)(ops:Array Oper)(s:S)(Q:Ex->S->Prop)(Kp:D->S->Prop):cK E sp (.region id ops false) s Q Kp=
   evW (ops.toList.map (·.dst)) (fun ds=>evW (ops.toList.map o3) (fun l=>opsM E sp ds l s (Q .normal) Kp) ⟨⟩) ⟨⟩:=zxy E sp ops ops.toList s (Q .normal) Kp
@[go_sem]theorem o3_eq (d:Option Tmp)(op:Op)(ty:TypeId)(pos:String)(af:Array Edge)(g:Option (Nat×Bool)):o3 ⟨d,op,ty,pos,af,g⟩=⟨d,op,g⟩:=(rfl)
@[go_sem]theorem gs3_e (ds:List (Option Tmp))(j:Nat):gs3 ds j=(ds[j]?).bind id:=(rfl)
@[go_sem]theorem bind_id (x:Tmp):(some (some x)).bind id=some x:=(rfl)
@[go_sem ↓]theorem opsM_nil (E:Env)(sp:FuncId->Option SpecX)(ds:List (Option Tmp))(s:S)(K:S->Prop)(Kp:D->S->Prop):opsM E sp ds [] s K Kp=evW s K ⟨⟩:=(rfl)
@[go_sem ↓]theorem opsM_cons (E:Env)(sp:FuncId->Option SpecX)(ds:List (Option Tmp))(d:Option Tmp)(op:Op)(l:List O3)(s:S)(K:S->Prop)(Kp:D->S->Prop):opsM E sp ds (⟨d,op,none⟩::l) s K Kp=evW s (fun s=>opK3 E sp d op s (fun s'=>opsM E sp ds l s' K Kp) Kp) ⟨⟩:=(rfl)
def gK (want:Bool)(x:LV)(p q r:Prop):Prop:=match x with
 |.d (.bool b)=>(b=want->p)/\(b= !want->q)
 |.tup []=>r
 |_=>False
def rdM (E:Env)(sp:FuncId->Option SpecX)(ds:List (Option Tmp))(o:O3)(s:S)(K:S->Prop):Prop:=
 match o with
 |⟨d,op,none⟩=>tkOk s op/\opK3 E sp d op s K (fun _ _=>False)
 |⟨dd,op,some (j,want)⟩=>sm (gs3 ds j) fun d=>sm (s.tm d) fun x=>gK want x
    (tkOk {s with tm:=put d (.d (.bool want)) s.tm} op/\opK3 E sp dd op {s with tm:=put d (.d (.bool want)) s.tm} K (fun _ _=>False))
    (dOk s dd/\K (S.pt {s with tm:=put d (.d (.bool !want)) s.tm} dd (.tup []))) (dOk s dd/\K (S.pt s dd (.tup [])))
def rsM (E:Env)(sp:FuncId->Option SpecX)(ds:List (Option Tmp))(l:List O3):List Nat->S->(S->Prop)->Prop
 |[],s,K=>K s
 |i::r,s,K=>sm l[i]? fun o=>visO E o.d/\rdM E sp ds o s (fun s'=>rsM E sp ds l r s' K)
theorem rdG_eq (E:Env)(sp:FuncId->Option SpecX)(ops:Array Oper)(o:Oper)(s:S)(K:S->Prop):rdG E sp ops o s K=rdM E sp (ops.toList.map (·.dst)) (o3 o) s K:=by
 obtain⟨d,op,ty,pos,af,g⟩:=o
 cases g with
 |none=>rfl
 |some p=>
  obtain⟨j,want⟩:=p;unfold rdG;simp only[gs3_eq];rfl
theorem rsK_eq (E:Env)(sp:FuncId->Option SpecX)(ops:Array Oper)(K:S->Prop):∀(r:List Nat) (s:S),rsK E sp ops r s K=rsM E sp (ops.toList.map (·.dst)) (ops.toList.map o3) r s K
 |[],s=>rfl
 |i::r,s=>by
  rw[rsK,rsM]
  have:(fun s'=>rsK E sp ops r s' K)=fun s'=>rsM E sp (ops.toList.map (·.dst)) (ops.toList.map o3) r s' K:=by
   funext s';exact rsK_eq E sp ops K r s'
  rw[this]
  cases h:ops[i]? with
  |none=>
   have:(ops.toList.map o3)[i]?=none:=by simp[h]
   rw[this,qki,qki]
  |some o=>
   have:(ops.toList.map o3)[i]?=some (o3 o):=by simp[h]
   rw[this,qkh,qkh,rdG_eq]
   try rfl
mutual
def qxq (E:Env)(sp:FuncId->Option SpecX)(ds:List (Option Tmp))(l:List O3):Plan->S->(S->Prop)->(D->S->Prop)->Prop
 |.done,s,K,_=>K s
 |.take i p,s,K,Kp=>sm l[i]? fun o=>visO E o.d/\opsM E sp ds [o] s (fun s'=>qxq E sp ds l p s' K Kp) Kp
 |.rd i p,s,K,Kp=>rsM E sp ds l [i] s fun s'=>qxq E sp ds l p s' K Kp
 |.all ps,s,K,Kp=>qv0 E sp ds l ps s K Kp
def qv0 (E:Env)(sp:FuncId->Option SpecX)(ds:List (Option Tmp))(l:List O3):Plans->S->(S->Prop)->(D->S->Prop)->Prop
 |.nil,_,_,_=>True
 |.cons i p ps,s,K,Kp=>(sm l[i]? fun o=>opsM E sp ds [o] s (fun s'=>qxq E sp ds l p s' K Kp) Kp)/\qv0 E sp ds l ps s K Kp
end
theorem opAt_eq (E:Env)(sp:FuncId->Option SpecX)(ops:Array Oper)(i:Nat)(s:S)(K:S->Prop)(Kp:D->S->Prop):opAt E sp ops i s K Kp=sm (ops.toList.map o3)[i]? fun o=>opsM E sp (ops.toList.map (·.dst)) [o] s K Kp:=by
 unfold opAt
 cases h:ops[i]? with
 |none=>
  have:(ops.toList.map o3)[i]?=none:=by simp[h]
  rw[this,qki]
 |some o=>
  have:(ops.toList.map o3)[i]?=some (o3 o):=by simp[h]
  rw[this,qkh];exact zxy E sp ops [o] s K Kp
mutual
theorem qkd (E:Env)(sp:FuncId->Option SpecX)(ops:Array Oper):∀(p:Plan) (s:S) (K:S->Prop) (Kp:D->S->Prop),qj0 E sp ops p s K Kp=qxq E sp (ops.toList.map (·.dst)) (ops.toList.map o3) p s K Kp
 |.done,s,K,Kp=>by rw[qj0,qxq]
 |.take i p,s,K,Kp=>by
   rw[qj0,qxq,opAt_eq]
   have:(fun s'=>qj0 E sp ops p s' K Kp)=fun s'=>qxq E sp (ops.toList.map (·.dst)) (ops.toList.map o3) p s' K Kp:=by
    funext s';exact qkd E sp ops p s' K Kp
   rw[this]
   cases h:ops[i]? with
   |none=>
    have:(ops.toList.map o3)[i]?=none:=by simp[h]
    rw[this,qki,qki,qki,false_and]
   |some o=>
    have:(ops.toList.map o3)[i]?=some (o3 o):=by simp[h]
    rw[this,qkh,qkh,qkh];rfl
 |.rd i p,s,K,Kp=>by
   rw[qj0,qxq,rsK_eq]
   have:(fun s'=>qj0 E sp ops p s' K Kp)=fun s'=>qxq E sp (ops.toList.map (·.dst)) (ops.toList.map o3) p s' K Kp:=by
    funext s';exact qkd E sp ops p s' K Kp
   rw[this]
 |.all ps,s,K,Kp=>by rw[qj0,qxq];exact plansK_eq E sp ops ps s K Kp
theorem plansK_eq (E:Env)(sp:FuncId->Option SpecX)(ops:Array Oper):∀(ps:Plans) (s:S) (K:S->Prop) (Kp:D->S->Prop),zxx E sp ops ps s K Kp=qv0 E sp (ops.toList.map (·.dst)) (ops.toList.map o3) ps s K Kp
 |.nil,s,K,Kp=>by rw[zxx,qv0]
 |.cons i p ps,s,K,Kp=>by
   rw[zxx,qv0,opAt_eq,plansK_eq E sp ops ps s K Kp]
   have:(fun s'=>qj0 E sp ops p s' K Kp)=fun s'=>qxq E sp (ops.toList.map (·.dst)) (ops.toList.map o3) p s' K Kp:=by
    funext s';exact qkd E sp ops p s' K Kp
   rw[this]
end
@[go_sem ↓]theorem planM_done (E:Env)(sp:FuncId->Option SpecX)(ds:List (Option Tmp))(l:List O3)(s:S)(K:S->Prop)(Kp:D->S->Prop):qxq E sp ds l .done s K Kp=evW s K ⟨⟩:=by rw[qxq];exact Eq.refl _
@[go_sem ↓]theorem planM_take (E:Env)(sp:FuncId->Option SpecX)(ds:List (Option Tmp))(l:List O3)(i:Nat)(p:Plan)(s:S)(K:S->Prop)(Kp:D->S->Prop):qxq E sp ds l (.take i p) s K Kp=sm l[i]? fun o=>visO E o.d/\opsM E sp ds [o] s (fun s'=>qxq E sp ds l p s' K Kp) Kp:=by rw[qxq]
@[go_sem]theorem visO_some (E:Env)(d:Nat):visO E (some d)=(E.vis d=true):=(rfl)
@[go_sem]theorem visO_none (E:Env):visO E none=True:=(rfl)
@[go_sem ↓]theorem planM_rd (E:Env)(sp:FuncId->Option SpecX)(ds:List (Option Tmp))(l:List O3)(i:Nat)(p:Plan)(s:S)(K:S->Prop)(Kp:D->S->Prop):qxq E sp ds l (.rd i p) s K Kp=rsM E sp ds l [i] s fun s'=>qxq E sp ds l p s' K Kp:=by rw[qxq]
@[go_sem ↓]theorem planM_all (E:Env)(sp:FuncId->Option SpecX)(ds:List (Option Tmp))(l:List O3)(ps:Plans)(s:S)(K:S->Prop)(Kp:D->S->Prop):qxq E sp ds l (.all ps) s K Kp=qv0 E sp ds l ps s K Kp:=by rw[qxq]
@[go_sem ↓]theorem plansM_nil (E:Env)(sp:FuncId->Option SpecX)(ds:List (Option Tmp))(l:List O3)(s:S)(K:S->Prop)(Kp:D->S->Prop):qv0 E sp ds l .nil s K Kp=True:=by rw[qv0]
@[go_sem ↓]theorem plansM_cons (E:Env)(sp:FuncId->Option SpecX)(ds:List (Option Tmp))(l:List O3)(i:Nat)(p:Plan)(ps:Plans)(s:S)(K:S->Prop)(Kp:D->S->Prop):qv0 E sp ds l (.cons i p ps) s K Kp=((sm l[i]? fun o=>opsM E sp ds [o] s (fun s'=>qxq E sp ds l p s' K Kp) Kp)/\qv0 E sp ds l ps s K Kp):=by rw[qv0]
@[go_sem ↓]theorem cK_draw (E:Env)(sp:FuncId->Option SpecX)(id:Nat)(ops:Array Oper)(s:S)(Q:Ex->S->Prop)(Kp:D->S->Prop):cK E sp (.region id ops true) s Q Kp=evW s (fun s=>Hold (qwy E sp ops s (Q .normal) Kp) ⟨⟩) ⟨⟩:=(rfl)
@[go_sem ↓]theorem rsM_nil (E:Env)(sp:FuncId->Option SpecX)(ds:List (Option Tmp))(l:List O3)(s:S)(K:S->Prop):rsM E sp ds l [] s K=evW s K ⟨⟩:=by rw[rsM];exact Eq.refl _
@[go_sem ↓]theorem rsM_cons (E:Env)(sp:FuncId->Option SpecX)(ds:List (Option Tmp))(l:List O3)(i:Nat)(r:List Nat)(s:S)(K:S->Prop):rsM E sp ds l (i::r) s K=sm l[i]? fun o=>visO E o.d/\rdM E sp ds o s (fun s'=>rsM E sp ds l r s' K):=by rw[rsM]
@[go_sem ↓]theorem rdM_none (E:Env)(sp:FuncId->Option SpecX)(ds:List (Option Tmp))(d:Option Tmp)(op:Op)(s:S)(K:S->Prop):rdM E sp ds ⟨d,op,none⟩ s K=evW s (fun s=>tkOk s op/\opK3 E sp d op s K (fun _ _=>False)) ⟨⟩:=(rfl)
@[go_sem ↓]theorem rdM_some (E:Env)(sp:FuncId->Option SpecX)(ds:List (Option Tmp))(dd:Option Tmp)(op:Op)(j:Nat)(want:Bool)(s:S)(K:S->Prop):rdM E sp ds ⟨dd,op,some (j,want)⟩ s K=evW s (fun s=>sm (gs3 ds j) fun d=>sm (s.tm d) fun x=>gK want x
    (tkOk {s with tm:=put d (.d (.bool want)) s.tm} op/\opK3 E sp dd op {s with tm:=put d (.d (.bool want)) s.tm} K (fun _ _=>False))
    (dOk s dd/\K (S.pt {s with tm:=put d (.d (.bool !want)) s.tm} dd (.tup []))) (dOk s dd/\K (S.pt s dd (.tup [])))) ⟨⟩:=(rfl)
@[go_sem]theorem tkOk_pick (s:S)(c x y:Operand):tkOk s (.pick c x y)=True:=(rfl)
@[go_sem]theorem tkOk_unOp (s:S)(o:UnOp)(t:TypeId)(x:Operand):tkOk s (.unOp o t x)=True:=(rfl)
@[go_sem]theorem tkOk_extract (s:S)(x:Operand)(i:Nat):tkOk s (.extract x i)=True:=(rfl)
@[go_sem]theorem tkOk_binOp (s:S)(o:BinOp)(t t':TypeId)(x y:Operand):tkOk s (.binOp o t x y t')=sm (s.ev x) fun u=>sm (s.ev y) fun v=>plV u v:=(rfl)
@[go_sem]theorem tkOk_len (s:S)(x:Operand)(t:TypeId):tkOk s (.call ⟨.builtin .len,#[x],#[t]⟩)=sm (s.ev x) fun u=>lenV u:=by
  unfold tkOk sm;simp
@[go_sem]theorem plV_int (k k':IntKind)(a b:Int):plV (.d (.int k a)) (.d (.int k' b))=True:=(rfl)
@[go_sem]theorem plV_st (a b:Bs):plV (.d (.st a)) (.d (.st b))=True:=(rfl)
@[go_sem]theorem plV_bool (a b:Bool):plV (.d (.bool a)) (.d (.bool b))=True:=(rfl)
@[go_sem]theorem lenV_st (a:Bs):lenV (.d (.st a))=True:=(rfl)
@[go_sem]theorem lenV_sl (z:Nat)(xs:List D)(f:Bool):lenV (.d (.sl z xs f))=True:=(rfl)
@[go_sem]theorem lenV_nil (a:Option Addr)(n c:Nat):lenV (.d (.imm (.slice a n c)))=True:=(rfl)
@[go_sem]theorem lenV_os (r z n:Nat):lenV (.os r z n)=True:=(rfl)
def isEp:LV->Prop
 |.ep _ _=>True
 |_=>False
@[go_sem]theorem isEp_ep (x:D)(o:Nat):isEp (.ep x o)=True:=(rfl)
@[go_sem]theorem tkOk_load (s:S)(t:TypeId)(a:Tmp):tkOk s (.load t (.tmp a))=sm (s.tm a) isEp:=by
  unfold tkOk isEp;first|rfl|(congr;done)|(congr;funext u;cases u<;>rfl)
@[go_sem]theorem tkOk_move (s:S)(x:Operand):tkOk s (.move x)=True:=(rfl)
@[go_sem]theorem tkOk_assign (s:S)(x:Operand):tkOk s (.assign x)=True:=(rfl)
@[go_sem]theorem tkOk_fieldAddr (s:S)(t:TypeId)(x:Operand)(f:Nat):tkOk s (.fieldAddr t x f)=True:=(rfl)
@[go_sem]theorem tkOk_nilCheck (s:S)(x:Operand):tkOk s (.nilCheck x)=True:=(rfl)
@[go_sem]theorem tkOk_indexAddr (s:S)(t:TypeId)(x i:Operand):tkOk s (.indexAddr t x i)=True:=(rfl)
@[go_sem]theorem tkOk_makeFunc (s:S)(f:Fn)(x y:Array Operand):tkOk s (.makeFunc f x y)=True:=(rfl)
@[go_sem ↓]theorem fzbs_nil (s:S)(K:S->Prop):fzbs [] s K=evW s K ⟨⟩:=(rfl)
@[go_sem ↓]theorem fzbs_cons (k:Nat)(ks:List Nat)(s:S)(K:S->Prop):fzbs (k::ks) s K=sm (s.bx k) fun b=>frzs s b.cells fun _ s1=>evW s1 (fun s1=>sm (s1.bx k) fun b1=>b1.ty<1000000/\sm (allD b1.cells) fun ds=>evW (s1.fzb k ds) (fun s=>fzbs ks s K) ⟨⟩) ⟨⟩:=(rfl)
theorem qzm {E:Env}{sp:FuncId->Option SpecX}{ops:Array Oper}{s:S}{K:S->Prop}{Kp:D->S->Prop}{w:Ph (qwy E sp ops s K Kp)}(ks rs:List Nat)(p:Plan)
  (h:fzbs ks s fun s=>evW (ops.toList.map (·.dst)) (fun ds=>evW (ops.toList.map o3) (fun l=>rsM E sp ds l rs s fun s=>qxq E sp ds l p s K Kp) ⟨⟩) ⟨⟩)(h1:okRs ops p rs ops.size (Array.replicate ops.size false)=true:=by kernel_rfl)(h2:Region.noSelect ops=true:=by kernel_rfl):Hold (qwy E sp ops s K Kp) w:=by
 refine .inl ⟨ks,rs,p,h1,h2,.inl ?_⟩
 have e:(fun s=>qxq E sp (ops.toList.map (·.dst)) (ops.toList.map o3) p s K Kp)=fun s=>qj0 E sp ops p s K Kp:=by funext s;exact(qkd E sp ops p s K Kp).symm
 have e2:(fun s=>evW (ops.toList.map (·.dst)) (fun ds=>evW (ops.toList.map o3) (fun l=>rsM E sp ds l rs s fun s=>qxq E sp ds l p s K Kp) ⟨⟩) ⟨⟩)=fun s=>rsK E sp ops rs s fun s=>qj0 E sp ops p s K Kp:=by
  funext s
  rw[<-e,rsK_eq];rfl
 rw[<-e2];exact h
theorem qws {E:Env}{sp:FuncId->Option SpecX}{ops:Array Oper}{s:S}{K:S->Prop}{Kp:D->S->Prop}{w:Ph (qwy E sp ops s K Kp)}(ks rs:List Nat)(p:Plan)(s0:S)
  (h:fzbs ks s fun s=>evW (ops.toList.map (·.dst)) (fun ds=>evW (ops.toList.map o3) (fun l=>rsM E sp ds l rs s fun s=>qxq E sp ds l p s (fun s'=>evW s' (fun s'=>Hold (Sub s' s0) ⟨⟩) ⟨⟩) Kp) ⟨⟩) ⟨⟩)(h0:K s0)(h1:okRs ops p rs ops.size (Array.replicate ops.size false)=true:=by kernel_rfl)(h2:Region.noSelect ops=true:=by kernel_rfl):Hold (qwy E sp ops s K Kp) w:=by
 refine .inl ⟨ks,rs,p,h1,h2,.inr ⟨fun s'=>Sub s' s0,fun _ h=>⟨s0,h0,h⟩,?_⟩⟩
 have e:(fun s=>qxq E sp (ops.toList.map (·.dst)) (ops.toList.map o3) p s (fun s'=>evW s' (fun s'=>Hold (Sub s' s0) ⟨⟩) ⟨⟩) Kp)=fun s=>qj0 E sp ops p s (fun s'=>Sub s' s0) Kp:=by funext s;exact(qkd E sp ops p s (fun s'=>evW s' (fun s'=>Hold (Sub s' s0) ⟨⟩) ⟨⟩) Kp).symm
 have e2:(fun s=>evW (ops.toList.map (·.dst)) (fun ds=>evW (ops.toList.map o3) (fun l=>rsM E sp ds l rs s fun s=>qxq E sp ds l p s (fun s'=>evW s' (fun s'=>Hold (Sub s' s0) ⟨⟩) ⟨⟩) Kp) ⟨⟩) ⟨⟩)=fun s=>rsK E sp ops rs s fun s=>qj0 E sp ops p s (fun s'=>Sub s' s0) Kp:=by
  funext s
  rw[<-e,rsK_eq];rfl
 rw[<-e2];exact h
theorem qz9 {E:Env}{sp:FuncId->Option SpecX}{ops:Array Oper}{s:S}{K:S->Prop}{Kp:D->S->Prop}{w:Ph (qwy E sp ops s K Kp)}(p:Plan)
  (h:evW (ops.toList.map (·.dst)) (fun ds=>evW (ops.toList.map o3) (fun l=>qxq E sp ds l p s K Kp) ⟨⟩) ⟨⟩)(h1:okP ops p ops.size (Array.replicate ops.size false)=true:=by kernel_rfl)(h2:Region.noSelect ops=true:=by kernel_rfl):Hold (qwy E sp ops s K Kp) w:=
 .inl ⟨[],[],p,h1,h2,.inl (show qj0 E sp ops p s K Kp from(qkd E sp ops p s K Kp).symm▸h)⟩
theorem qju {E:Env}{sp:FuncId->Option SpecX}{ops:Array Oper}{s:S}{K:S->Prop}{Kp:D->S->Prop}{w:Ph (qwy E sp ops s K Kp)}(p:Plan)(s0:S)
  (h:evW (ops.toList.map (·.dst)) (fun ds=>evW (ops.toList.map o3) (fun l=>qxq E sp ds l p s (fun s'=>evW s' (fun s'=>Hold (Sub s' s0) ⟨⟩) ⟨⟩) Kp) ⟨⟩) ⟨⟩)(h0:K s0)(h1:okP ops p ops.size (Array.replicate ops.size false)=true:=by kernel_rfl)(h2:Region.noSelect ops=true:=by kernel_rfl):Hold (qwy E sp ops s K Kp) w:=
 .inl ⟨[],[],p,h1,h2,.inr ⟨fun s'=>Sub s' s0,fun _ h=>⟨s0,h0,h⟩,(show qj0 E sp ops p s (fun s'=>Sub s' s0) Kp from(qkd E sp ops p s (fun s'=>evW s' (fun s'=>Hold (Sub s' s0) ⟨⟩) ⟨⟩) Kp).symm▸h)⟩⟩
theorem qwd {E:Env}{sp:FuncId->Option SpecX}{ops:Array Oper}{s:S}{K:S->Prop}{Kp:D->S->Prop}{w:Ph (qwy E sp ops s K Kp)}(p:Plan){α:Type}(I:α->S)
  (h:evW (ops.toList.map (·.dst)) (fun ds=>evW (ops.toList.map o3) (fun l=>qxq E sp ds l p s (fun s'=>evW s' (fun s'=>Hold (∃i,Sub s' (I i)) ⟨⟩) ⟨⟩) Kp) ⟨⟩) ⟨⟩)(h0:∀i,K (I i))(h1:okP ops p ops.size (Array.replicate ops.size false)=true:=by kernel_rfl)(h2:Region.noSelect ops=true:=by kernel_rfl):Hold (qwy E sp ops s K Kp) w:=
 .inl ⟨[],[],p,h1,h2,.inr ⟨fun s'=>∃i,Sub s' (I i),fun _ ⟨i,h⟩=>⟨I i,h0 i,h⟩,(show qj0 E sp ops p s (fun s'=>∃i,Sub s' (I i)) Kp from(qkd E sp ops p s (fun s'=>evW s' (fun s'=>Hold (∃i,Sub s' (I i)) ⟨⟩) ⟨⟩) Kp).symm▸h)⟩⟩
theorem qz5 {E:Env}{sp:FuncId->Option SpecX}{ops:Array Oper}{s:S}{K:S->Prop}{Kp:D->S->Prop}{w:Ph (qwy E sp ops s K Kp)}
  (h:evW (ops.toList.map (·.dst)) (fun ds=>evW (ops.toList.map o3) (fun l=>opsM E sp ds l s K (fun _ _=>False)) ⟨⟩) ⟨⟩)(h1:(Region.lexB .any ops&&ops.toList.all fun o=>isVal o.op)=true:=by kernel_rfl):Hold (qwy E sp ops s K Kp) w:=
 .inr (.inl ⟨h1,(zxy E sp ops ops.toList s K (fun _ _=>False)).symm▸h⟩)
def rhM (E:Env)(sp:FuncId->Option SpecX)(ks:List Nat)(o:O3)(s:S)(K:S->Prop):Prop:=visO E o.d/\tkH s ks o.op/\opK3 E sp o.d o.op s K (fun _ _=>False)
def rsHM (E:Env)(sp:FuncId->Option SpecX)(ks:List Nat)(l:List O3):List Nat->S->(S->Prop)->Prop
 |[],s,K=>K s
 |i::r,s,K=>sm l[i]? fun o=>rhM E sp ks o s (fun s'=>rsHM E sp ks l r s' K)
def khM (E:Env)(sp:FuncId->Option SpecX)(ks:List Nat)(o:O3)(s:S)(K:S->Prop):Prop:=o.g=none/\qv6 s ks o.op/\opK3 E sp o.d o.op s K (fun _ _=>False)
mutual
def qke (E:Env)(sp:FuncId->Option SpecX)(ks:List Nat)(l:List O3):Plan->S->(S->Prop)->Prop
 |.done,s,K=>K s
 |.all ps,s,K=>qjz E sp ks l ps s K
 |.take _ _,_,_=>False
 |.rd _ _,_,_=>False
def qjz (E:Env)(sp:FuncId->Option SpecX)(ks:List Nat)(l:List O3):Plans->S->(S->Prop)->Prop
 |.nil,_,_=>True
 |.cons i p ps,s,K=>(sm l[i]? fun o=>khM E sp ks o s (fun s'=>qke E sp ks l p s' K))/\qjz E sp ks l ps s K
end
theorem rsHK_eq (E:Env)(sp:FuncId->Option SpecX)(ops:Array Oper)(ks:List Nat)(K:S->Prop):∀(r:List Nat) (s:S),rsHK E sp ops ks r s K=rsHM E sp ks (ops.toList.map o3) r s K
 |[],s=>rfl
 |i::r,s=>by
  rw[rsHK,rsHM]
  have:(fun s'=>rsHK E sp ops ks r s' K)=fun s'=>rsHM E sp ks (ops.toList.map o3) r s' K:=by
   funext s';exact rsHK_eq E sp ops ks K r s'
  rw[this]
  cases h:ops[i]? with
  |none=>
   have:(ops.toList.map o3)[i]?=none:=by simp[h]
   rw[this,qki,qki]
  |some o=>
   have:(ops.toList.map o3)[i]?=some (o3 o):=by simp[h]
   rw[this,qkh,qkh,opK_cast];rfl
mutual
theorem planHK_eq (E:Env)(sp:FuncId->Option SpecX)(ops:Array Oper)(ks:List Nat)(K:S->Prop):∀(p:Plan) (s:S),qv1 E sp ops ks p s K=qke E sp ks (ops.toList.map o3) p s K
 |.done,s=>by rw[qv1,qke]
 |.take _ _,s=>by rw[qv1,qke]
 |.rd _ _,s=>by rw[qv1,qke]
 |.all ps,s=>by rw[qv1,qke];exact zkc E sp ops ks K ps s
theorem zkc (E:Env)(sp:FuncId->Option SpecX)(ops:Array Oper)(ks:List Nat)(K:S->Prop):∀(ps:Plans) (s:S),qw6 E sp ops ks ps s K=qjz E sp ks (ops.toList.map o3) ps s K
 |.nil,s=>by rw[qw6,qjz]
 |.cons i p ps,s=>by
   rw[qw6,qjz,zkc E sp ops ks K ps s]
   have:(fun s'=>qv1 E sp ops ks p s' K)=fun s'=>qke E sp ks (ops.toList.map o3) p s' K:=by
    funext s';exact planHK_eq E sp ops ks K p s'
   rw[this]
   congr 1
   cases h:ops[i]? with
   |none=>
    have:(ops.toList.map o3)[i]?=none:=by simp[h]
    rw[this,qki,qki]
   |some o=>
    have:(ops.toList.map o3)[i]?=some (o3 o):=by simp[h]
    rw[this,qkh,qkh,opK_cast];rfl
end
@[go_sem ↓]theorem rsHM_nil (E:Env)(sp:FuncId->Option SpecX)(ks:List Nat)(l:List O3)(s:S)(K:S->Prop):rsHM E sp ks l [] s K=evW s K ⟨⟩:=by rw[rsHM];exact Eq.refl _
@[go_sem ↓]theorem rsHM_cons (E:Env)(sp:FuncId->Option SpecX)(ks:List Nat)(l:List O3)(i:Nat)(r:List Nat)(s:S)(K:S->Prop):rsHM E sp ks l (i::r) s K=sm l[i]? fun o=>rhM E sp ks o s (fun s'=>rsHM E sp ks l r s' K):=by rw[rsHM]
@[go_sem ↓]theorem rhM_eq (E:Env)(sp:FuncId->Option SpecX)(ks:List Nat)(d:Option Tmp)(op:Op)(g:Option (Nat×Bool))(s:S)(K:S->Prop):rhM E sp ks ⟨d,op,g⟩ s K=evW s (fun s=>visO E d/\tkH s ks op/\opK3 E sp d op s K (fun _ _=>False)) ⟨⟩:=(rfl)
@[go_sem ↓]theorem khM_eq (E:Env)(sp:FuncId->Option SpecX)(ks:List Nat)(d:Option Tmp)(op:Op)(s:S)(K:S->Prop):khM E sp ks ⟨d,op,none⟩ s K=evW s (fun s=>qv6 s ks op/\opK3 E sp d op s K (fun _ _=>False)) ⟨⟩:=by
  show((none:Option (Nat×Bool))=none/\_)=_
  rw[eq_self,true_and];rfl
@[go_sem ↓]theorem planHM_done (E:Env)(sp:FuncId->Option SpecX)(ks:List Nat)(l:List O3)(s:S)(K:S->Prop):qke E sp ks l .done s K=evW s K ⟨⟩:=by rw[qke];exact Eq.refl _
@[go_sem ↓]theorem planHM_all (E:Env)(sp:FuncId->Option SpecX)(ks:List Nat)(l:List O3)(ps:Plans)(s:S)(K:S->Prop):qke E sp ks l (.all ps) s K=qjz E sp ks l ps s K:=by rw[qke]
@[go_sem ↓]theorem plansHM_nil (E:Env)(sp:FuncId->Option SpecX)(ks:List Nat)(l:List O3)(s:S)(K:S->Prop):qjz E sp ks l .nil s K=True:=by rw[qjz]
@[go_sem ↓]theorem plansHM_cons (E:Env)(sp:FuncId->Option SpecX)(ks:List Nat)(l:List O3)(i:Nat)(p:Plan)(ps:Plans)(s:S)(K:S->Prop):qjz E sp ks l (.cons i p ps) s K=((sm l[i]? fun o=>khM E sp ks o s (fun s'=>qke E sp ks l p s' K))/\qjz E sp ks l ps s K):=by rw[qjz]
@[go_sem]theorem tkL_ep (ks:List Nat)(x:D)(o:Nat):tkL ks (.ep x o)=True:=(rfl)
@[go_sem]theorem tkL_bp (ks:List Nat)(k o:Nat):tkL ks (.bp k o)=(ks.contains k=true):=(rfl)
@[go_sem]theorem tkL_sp (ks:List Nat)(b o:Nat):tkL ks (.d (.imm (.pointer (some ⟨b,o,none⟩))))=(ks.contains (b+1000000)=true):=(rfl)
@[go_sem]theorem tkH_load (s:S)(ks:List Nat)(t:TypeId)(a:Tmp):tkH s ks (.load t (.tmp a))=sm (s.tm a) (tkL ks):=(rfl)
@[go_sem]theorem tkH_move (s:S)(ks:List Nat)(x:Operand):tkH s ks (.move x)=tkOk s (.move x):=(rfl)
@[go_sem]theorem tkH_assign (s:S)(ks:List Nat)(x:Operand):tkH s ks (.assign x)=tkOk s (.assign x):=(rfl)
@[go_sem]theorem tkH_fieldAddr (s:S)(ks:List Nat)(t:TypeId)(x:Operand)(f:Nat):tkH s ks (.fieldAddr t x f)=tkOk s (.fieldAddr t x f):=(rfl)
@[go_sem]theorem tkH_nilCheck (s:S)(ks:List Nat)(x:Operand):tkH s ks (.nilCheck x)=tkOk s (.nilCheck x):=(rfl)
@[go_sem]theorem tkH_indexAddr (s:S)(ks:List Nat)(t:TypeId)(x i:Operand):tkH s ks (.indexAddr t x i)=tkOk s (.indexAddr t x i):=(rfl)
@[go_sem]theorem tkH_extract (s:S)(ks:List Nat)(x:Operand)(i:Nat):tkH s ks (.extract x i)=tkOk s (.extract x i):=(rfl)
@[go_sem]theorem tkH_unOp (s:S)(ks:List Nat)(o:UnOp)(t:TypeId)(x:Operand):tkH s ks (.unOp o t x)=tkOk s (.unOp o t x):=(rfl)
@[go_sem]theorem tkH_binOp (s:S)(ks:List Nat)(o:BinOp)(t t':TypeId)(x y:Operand):tkH s ks (.binOp o t x y t')=tkOk s (.binOp o t x y t'):=(rfl)
@[go_sem]theorem tkH_pick (s:S)(ks:List Nat)(c x y:Operand):tkH s ks (.pick c x y)=tkOk s (.pick c x y):=(rfl)
@[go_sem]theorem tkH_call (s:S)(ks:List Nat)(c:Call):tkH s ks (.call c)=tkOk s (.call c):=(rfl)
@[go_sem]theorem hasAll_nil (s:S):qkf s []=True:=(rfl)
@[go_sem]theorem hasAll_cons (s:S)(k:Nat)(ks:List Nat):qkf s (k::ks)=((sm (s.bx k) fun b=>b.ty<1000000)/\qkf s ks):=(rfl)
def kpP (ks:List Nat):LV->Prop
 |.bp k _=>ks.contains k=false
 |_=>False
@[go_sem]theorem kpP_bp (ks:List Nat)(k o:Nat):kpP ks (.bp k o)=(ks.contains k=false):=(rfl)
@[go_sem]theorem keepOk_alloc (s:S)(ks:List Nat)(t:TypeId):qv6 s ks (.alloc t)=(qkf s ks/\True):=(rfl)
@[go_sem]theorem keepOk_store (s:S)(ks:List Nat)(t:TypeId)(p:Tmp)(x:Operand):qv6 s ks (.store t (.tmp p) x)=(qkf s ks/\sm (s.tm p) (kpP ks)):=by
  unfold qv6 kpP;first|rfl|(congr;done)|(congr;funext u;cases u<;>rfl)
@[go_sem]theorem keepOk_build (s:S)(ks:List Nat)(t:TypeId)(ps:Array (Nat×Operand)):qv6 s ks (.build t ps)=(qkf s ks/\true=true):=(rfl)
@[go_sem]theorem keepOk_fieldAddr (s:S)(ks:List Nat)(t:TypeId)(x:Operand)(f:Nat):qv6 s ks (.fieldAddr t x f)=(qkf s ks/\true=true):=(rfl)
@[go_sem]theorem keepOk_move (s:S)(ks:List Nat)(x:Operand):qv6 s ks (.move x)=(qkf s ks/\true=true):=(rfl)
@[go_sem]theorem keepOk_assign (s:S)(ks:List Nat)(x:Operand):qv6 s ks (.assign x)=(qkf s ks/\true=true):=(rfl)
theorem qqo {E:Env}{sp:FuncId->Option SpecX}{ops:Array Oper}{s:S}{K:S->Prop}{Kp:D->S->Prop}{w:Ph (qwy E sp ops s K Kp)}(fs ks:List Nat)(rs:List Nat)(p:Plan)(s0:S)(hks:∀k∈ks,1000<=k)
  (h:fzbs fs s fun s=>qkf s ks/\evW (ops.toList.map o3) (fun l=>rsHM E sp ks l rs s fun s1=>qke E sp ks l p s1 (fun s'=>evW s' (fun s'=>Hold (Sub s' s0) ⟨⟩) ⟨⟩)) ⟨⟩)(h0:K s0)(h1:okRsH ops p rs ops.size (Array.replicate ops.size false)=true:=by kernel_rfl)(h2:Region.noSelect ops=true:=by kernel_rfl):Hold (qwy E sp ops s K Kp) w:=by
 refine .inr (.inr ⟨fs,ks,rs,p,fun s'=>Sub s' s0,fun _ h=>⟨s0,h0,h⟩,h1,h2,hks,zx9 (fun s h=>⟨h.1,?_⟩) h⟩)
 have e:(fun s1=>qke E sp ks (ops.toList.map o3) p s1 (fun s'=>evW s' (fun s'=>Hold (Sub s' s0) ⟨⟩) ⟨⟩))=fun s1=>qv1 E sp ops ks p s1 (fun s'=>Sub s' s0):=by
  funext s1
  rw[planHK_eq];rfl
 have h:=h.2;rw[rsHK_eq,<-e];exact h
@[go_sem ↓]theorem opK_makeSlice (E:Env)(sp:FuncId->Option SpecX)(s:S)(K:S->Prop)(Kp:D->S->Prop)(t:TypeId)(l c:Operand)(d:Option Tmp):opK3 E sp d (.makeSlice t l c) s K Kp=sm (s.ev l) fun l=>sm (s.ev c) fun c=>mksK E s d t l c K:=(rfl)
@[go_sem ↓]theorem mksK_eq (E:Env)(s:S)(d:Nat)(t:TypeId)(k k':IntKind)(n m:Int)(K:S->Prop):mksK E s (some d) t (.d (.int k n)) (.d (.int k' m)) K=sm (E.ti t) fun ti=>match ti.desc with
  |.sli e=>sm (E.ti e) fun te=>n=m/\0<=n/\n<=16777216/\0<te.size/\te.bytes<=16777216/\e<1000000/\d<s.n/\(cvD te.zero).el te.size=true/\
     (n=0->K (s.pt (some d) (.d (.sl te.size [] true))))/\(n≠0->K (s.na d te.size e (List.replicate n.toNat (cvD te.zero))))
  |_=>False:=by
  unfold mksK;congr;funext ti;cases ti.desc<;>exact Eq.refl _
@[go_sem ↓]theorem opK_clip (E:Env)(sp:FuncId->Option SpecX)(s:S)(K:S->Prop)(Kp:D->S->Prop)(t:TypeId)(x u v:Operand)(d:Option Tmp):opK3 E sp d (.slice t x none (some u) (some v)) s K Kp=sm (s.ev x) fun x=>sm (s.ev u) fun u=>sm (s.ev v) fun v=>clpK E t x u v fun x=>dOk s d/\K (s.pt d x):=(rfl)
@[go_sem ↓]theorem clpK_sl (E:Env)(t:TypeId)(z:Nat)(xs:List D)(f:Bool)(k k':IntKind)(n m:Int)(K:LV->Prop):clpK E t (.d (.sl z xs f)) (.d (.int k n)) (.d (.int k' m)) K=(n=m/\sm (E.ti t) fun ti=>match ti.desc with
  |.sli e=>sm (E.ti e) fun te=>sm (D.asl te.size (.sl z xs f)) fun q=>n=q.1.length/\K (.d (.sl te.size q.1 true))
  |_=>False):=by
  unfold clpK;congr
@[go_sem ↓]theorem clpK_nil (E:Env)(t:TypeId)(k k':IntKind)(n m:Int)(K:LV->Prop):clpK E t (.d (.imm (.slice none 0 0))) (.d (.int k n)) (.d (.int k' m)) K=(n=m/\sm (E.ti t) fun ti=>match ti.desc with
  |.sli e=>sm (E.ti e) fun te=>sm (D.asl te.size (.imm (.slice none 0 0))) fun q=>n=q.1.length/\K (.d (.sl te.size q.1 true))
  |_=>False):=by
  unfold clpK;congr
@[go_sem ↓]theorem clpK_ss (E:Env)(t:TypeId)(b o l c:Nat)(k k':IntKind)(n m:Int)(K:LV->Prop):clpK E t (.d (.imm (.slice (some ⟨b,o,none⟩) l c))) (.d (.int k n)) (.d (.int k' m)) K=(n=m/\sm (E.ti t) fun ti=>match ti.desc with
  |.sli e=>sm (E.ti e) fun te=>n=l/\0<l/\l<=c/\K (.d (.imm (.slice (some ⟨b,o,none⟩) l l)))
  |_=>False):=by
  unfold clpK;congr
@[go_sem]theorem asl_ss (z b o n c:Nat):D.asl z (.imm (.slice (some ⟨b,o,none⟩) n c))=none:=(rfl)
@[go_sem]theorem nS_eq (s:S)(d b:Nat)(cs:List LV)(t:TypeId):s.nS d b cs t={n:=s.n,tm:=put d (.d (.imm (.pointer (some ⟨b,0,none⟩)))) s.tm,bx:=put (b+1000000) ⟨cs,t⟩ s.bx,ar:=s.ar}:=(rfl)
@[go_sem]theorem nSl_eq (s:S)(d b n c:Nat)(cs:List LV)(t:TypeId)(bx:Bx):s.nSl d b n c cs t bx={n:=s.n,tm:=put d (.d (.imm (.slice (some ⟨b,0,none⟩) n c))) s.tm,bx:=put (b+1000000) ⟨cs,t⟩ bx,ar:=s.ar}:=(rfl)
@[go_sem]theorem elC_eq (z n c:Nat)(pre:List LV)(ys:List D):elC z n c pre ys=pre++ys.flatMap D.lcs++List.replicate ((c-n)*z) .un:=(rfl)
@[go_sem]theorem fm_nil:([]:List D).flatMap D.lcs=[]:=(rfl)
@[go_sem]theorem fm_one (x:D): [x].flatMap D.lcs=x.lcs:=by simp
@[go_sem]theorem cvD_agg (cs:Array Value):cvD (.agg cs)=.ag (cs.toList.map cvd):=(rfl)
@[go_sem]theorem stable_ge (b:Nat):(1000000<=b+1000000)=True:=by simp
@[go_sem]theorem stable_eq (b c:Nat):(b+1000000=c+1000000)=(b=c):=by simp
def br (b:Bool)(p q:Prop):Prop:=(b=true->p)/\(b=false->q)
@[go_sem ↓ high]theorem br_true (p q:Prop):br true p q=p:=by simp[br]
@[go_sem ↓ high]theorem br_false (p q:Prop):br false p q=q:=by simp[br]
@[go_sem ↓ high]theorem br_not (b:Bool)(p q:Prop):br (!b) p q=br b q p:=by cases b<;>simp[br]
@[go_sem ↓ low]theorem br_gen (b:Bool)(p q:Prop):br b p q=((b=true->p)/\(b=false->q)):=(rfl)
@[go_sem ↓]theorem cndK_br (b:Bool)(p q:Prop):cndK (.d (.bool b)) p q=br b p q:=(rfl)
@[go_sem ↓]theorem tr_br (b:Bool)(p q:Prop):LV.tr (.d (.bool b)) p q=br b p q:=(rfl)
@[go_sem ↓]theorem gK_t (b:Bool)(p q r:Prop):gK true (.d (.bool b)) p q r=br b p q:=(rfl)
@[go_sem ↓]theorem gK_u (b:Bool)(p q r:Prop):gK b (.tup []) p q r=r:=(rfl)
@[go_sem ↓]theorem gK_f (b:Bool)(p q r:Prop):gK false (.d (.bool b)) p q r=br b q p:=by cases b<;>simp[gK,br]
@[go_sem ↓]theorem opsM_cons' (E:Env)(sp:FuncId->Option SpecX)(ds:List (Option Tmp))(dd:Option Tmp)(op:Op)(j:Nat)(want:Bool)(l:List O3)(s:S)(K:S->Prop)(Kp:D->S->Prop):opsM E sp ds (⟨dd,op,some (j,want)⟩::l) s K Kp=evW s (fun s=>sm (gs3 ds j) fun d=>sm (s.tm d) fun x=>gK want x
   (opK3 E sp dd op {s with tm:=put d (.d (.bool want)) s.tm} (fun s'=>opsM E sp ds l s' K Kp) Kp)
   (dOk s dd/\opsM E sp ds l (S.pt {s with tm:=put d (.d (.bool !want)) s.tm} dd (.tup [])) K Kp)
   (dOk s dd/\opsM E sp ds l (S.pt s dd (.tup [])) K Kp)) ⟨⟩:=by
  unfold evW gK sm;rw[opsM];exact Eq.refl _
@[go_sem ↓]theorem opK_move (E:Env)(sp:FuncId->Option SpecX)(s:S)(K:S->Prop)(Kp:D->S->Prop)(x:Operand)(d:Option Tmp):opK3 E sp d (.move x) s K Kp=valK E (.move x) s fun x=>dOk s d/\K (s.pt d x):=(rfl)
@[go_sem ↓]theorem opK_assign (E:Env)(sp:FuncId->Option SpecX)(s:S)(K:S->Prop)(Kp:D->S->Prop)(x:Operand)(d:Option Tmp):opK3 E sp d (.assign x) s K Kp=valK E (.assign x) s fun x=>dOk s d/\K (s.pt d x):=(rfl)
@[go_sem ↓]theorem opK_pick (E:Env)(sp:FuncId->Option SpecX)(s:S)(K:S->Prop)(Kp:D->S->Prop)(c a b:Operand)(d:Option Tmp):opK3 E sp d (.pick c a b) s K Kp=valK E (.pick c a b) s fun x=>dOk s d/\K (s.pt d x):=(rfl)
@[go_sem ↓]theorem opK_build (E:Env)(sp:FuncId->Option SpecX)(s:S)(K:S->Prop)(Kp:D->S->Prop)(t:TypeId)(ps:Array (Nat×Operand))(d:Option Tmp):opK3 E sp d (.build t ps) s K Kp=valK E (.build t ps) s fun x=>dOk s d/\K (s.pt d x):=(rfl)
@[go_sem ↓]theorem opK_load (E:Env)(sp:FuncId->Option SpecX)(s:S)(K:S->Prop)(Kp:D->S->Prop)(t:TypeId)(a:Operand)(d:Option Tmp):opK3 E sp d (.load t a) s K Kp=valK E (.load t a) s fun x=>dOk s d/\K (s.pt d x):=(rfl)
@[go_sem ↓]theorem opK_nilCheck (E:Env)(sp:FuncId->Option SpecX)(s:S)(K:S->Prop)(Kp:D->S->Prop)(x:Operand)(d:Option Tmp):opK3 E sp d (.nilCheck x) s K Kp=valK E (.nilCheck x) s fun x=>dOk s d/\K (s.pt d x):=(rfl)
@[go_sem ↓]theorem opK_binOp (E:Env)(sp:FuncId->Option SpecX)(s:S)(K:S->Prop)(Kp:D->S->Prop)(op:BinOp)(t t':TypeId)(x y:Operand)(d:Option Tmp):opK3 E sp d (.binOp op t x y t') s K Kp=valK E (.binOp op t x y t') s fun x=>dOk s d/\K (s.pt d x):=(rfl)
@[go_sem ↓]theorem opK_unOp (E:Env)(sp:FuncId->Option SpecX)(s:S)(K:S->Prop)(Kp:D->S->Prop)(op:UnOp)(t:TypeId)(x:Operand)(d:Option Tmp):opK3 E sp d (.unOp op t x) s K Kp=valK E (.unOp op t x) s fun x=>dOk s d/\K (s.pt d x):=(rfl)
@[go_sem ↓]theorem opK_convert (E:Env)(sp:FuncId->Option SpecX)(s:S)(K:S->Prop)(Kp:D->S->Prop)(t t':TypeId)(x:Operand)(d:Option Tmp):opK3 E sp d (.convert t t' x) s K Kp=valK E (.convert t t' x) s fun x=>dOk s d/\K (s.pt d x):=(rfl)
@[go_sem ↓]theorem opK_makeInterface (E:Env)(sp:FuncId->Option SpecX)(s:S)(K:S->Prop)(Kp:D->S->Prop)(t:TypeId)(x:Operand)(d:Option Tmp):opK3 E sp d (.makeInterface t x) s K Kp=valK E (.makeInterface t x) s fun x=>dOk s d/\K (s.pt d x):=(rfl)
@[go_sem ↓]theorem opK_makeFunc (E:Env)(sp:FuncId->Option SpecX)(s:S)(K:S->Prop)(Kp:D->S->Prop)(f:Fn)(xs ys:Array Operand)(d:Option Tmp):opK3 E sp d (.makeFunc f xs ys) s K Kp=valK E (.makeFunc f xs ys) s fun x=>dOk s d/\K (s.pt d x):=(rfl)
@[go_sem ↓]theorem opK_fieldAddr (E:Env)(sp:FuncId->Option SpecX)(s:S)(K:S->Prop)(Kp:D->S->Prop)(t:TypeId)(x:Operand)(f:Nat)(d:Option Tmp):opK3 E sp d (.fieldAddr t x f) s K Kp=valK E (.fieldAddr t x f) s fun x=>dOk s d/\K (s.pt d x):=(rfl)
@[go_sem ↓]theorem opK_field (E:Env)(sp:FuncId->Option SpecX)(s:S)(K:S->Prop)(Kp:D->S->Prop)(t:TypeId)(x:Operand)(f:Nat)(d:Option Tmp):opK3 E sp d (.field t x f) s K Kp=valK E (.field t x f) s fun x=>dOk s d/\K (s.pt d x):=(rfl)
@[go_sem ↓]theorem opK_indexAddr (E:Env)(sp:FuncId->Option SpecX)(s:S)(K:S->Prop)(Kp:D->S->Prop)(t:TypeId)(x i:Operand)(d:Option Tmp):opK3 E sp d (.indexAddr t x i) s K Kp=valK E (.indexAddr t x i) s fun x=>dOk s d/\K (s.pt d x):=(rfl)
@[go_sem ↓]theorem opK_index (E:Env)(sp:FuncId->Option SpecX)(s:S)(K:S->Prop)(Kp:D->S->Prop)(t:TypeId)(x i:Operand)(d:Option Tmp):opK3 E sp d (.index t x i) s K Kp=valK E (.index t x i) s fun x=>dOk s d/\K (s.pt d x):=(rfl)
@[go_sem ↓]theorem opK_slice (E:Env)(sp:FuncId->Option SpecX)(s:S)(K:S->Prop)(Kp:D->S->Prop)(t:TypeId)(x:Operand)(lo hi:Option Operand)(d:Option Tmp):opK3 E sp d (.slice t x lo hi none) s K Kp=valK E (.slice t x lo hi none) s fun x=>dOk s d/\K (s.pt d x):=(rfl)
@[go_sem ↓]theorem opK_extract (E:Env)(sp:FuncId->Option SpecX)(s:S)(K:S->Prop)(Kp:D->S->Prop)(x:Operand)(i:Nat)(d:Option Tmp):opK3 E sp d (.extract x i) s K Kp=valK E (.extract x i) s fun x=>dOk s d/\K (s.pt d x):=(rfl)
@[go_sem ↓]theorem opK_store (E:Env)(sp:FuncId->Option SpecX)(s:S)(K:S->Prop)(Kp:D->S->Prop)(t:TypeId)(p x:Operand)(d:Option Tmp):opK3 E sp d (.store t p x) s K Kp=(d=none/\sm (s.ev p) fun p=>sm (s.ev x) fun x=>storK E s t p x K):=(rfl)
@[go_sem ↓]theorem opK_alloc (E:Env)(sp:FuncId->Option SpecX)(s:S)(K:S->Prop)(Kp:D->S->Prop)(t:TypeId)(d:Option Tmp):opK3 E sp d (.alloc t) s K Kp=sm (E.ti t) fun i=>evW (vcs i.zero) (fun cs=>boxK E s d t i cs K) ⟨⟩:=(rfl)
@[go_sem ↓]theorem opK_box (E:Env)(sp:FuncId->Option SpecX)(s:S)(K:S->Prop)(Kp:D->S->Prop)(t:TypeId)(x:Operand)(d:Option Tmp):opK3 E sp d (.box t x) s K Kp=sm (E.ti t) fun i=>sm (s.ev x) fun x=>sm (pcs x) fun cs=>boxK E s d t i cs K:=(rfl)
@[go_sem ↓]theorem opK_buildSlice (E:Env)(sp:FuncId->Option SpecX)(s:S)(K:S->Prop)(Kp:D->S->Prop)(t:TypeId)(n:Nat)(ps:Array (Nat×Operand))(d:Option Tmp):opK3 E sp d (.buildSlice t n ps) s K Kp=bslK E s d t n ps.toList K:=(rfl)
@[go_sem ↓]theorem opK_panic (E:Env)(sp:FuncId->Option SpecX)(s:S)(K:S->Prop)(Kp:D->S->Prop)(x:Operand)(d:Option Tmp):opK3 E sp d (.panic x) s K Kp=sm (s.ev x) fun x=>match x with|.d (.ifc t y)=>Kp (.ifc t y) s|_=>False:=(rfl)
@[go_sem ↓]theorem frz_d (s:S)(x:D)(K:D->S->Prop):frz s (.d x) K=K x s:=(rfl)
@[go_sem ↓]theorem frz_os (s:S)(r sz n:Nat)(K:D->S->Prop):frz s (.os r sz n) K=frz1 s (.os r sz n) K:=(rfl)
@[go_sem ↓]theorem frz_ag (s:S)(xs:List LV)(K:D->S->Prop):frz s (.ag xs) K=frzs s xs fun ds s'=>K (.ag ds) s':=(rfl)
@[go_sem ↓]theorem lndA1_d (s:S)(x:D)(K:LV->S->Prop):lndA1 s (.d x) K=K (.d x) s:=(rfl)
@[go_sem ↓]theorem lndA1_bp (s:S)(k o:Nat)(K:LV->S->Prop):lndA1 s (.bp k o) K=K (.bp k o) s:=(rfl)
@[go_sem ↓]theorem lndA1_ep (s:S)(x:D)(o:Nat)(K:LV->S->Prop):lndA1 s (.ep x o) K=K (.ep x o) s:=(rfl)
@[go_sem ↓]theorem lndA1_fn (s:S)(f:Fn)(xs ys:List LV)(K:LV->S->Prop):lndA1 s (.fn f xs ys) K=K (.fn f xs ys) s:=(rfl)
@[go_sem ↓]theorem lndA1_un (s:S)(K:LV->S->Prop):lndA1 s .un K=K .un s:=(rfl)
@[go_sem ↓]theorem lndA1_mp (s:S)(k:Nat)(K:LV->S->Prop):lndA1 s (.mp k) K=K (.mp k) s:=(rfl)
@[go_sem ↓]theorem lndA1_os (s:S)(r sz n:Nat)(K:LV->S->Prop):lndA1 s (.os r sz n) K=lnd1 s (.os r sz n) fun d s'=>K (.d d) s':=(rfl)
@[go_sem ↓]theorem lndA1_ag (s:S)(xs:List LV)(K:LV->S->Prop):lndA1 s (.ag xs) K=lnds s xs fun ds s'=>K (.d (.ag ds)) s':=(rfl)
@[go_sem ↓]theorem frzA1_d (s:S)(x:D)(K:LV->S->Prop):frzA1 s (.d x) K=K (.d x) s:=(rfl)
@[go_sem ↓]theorem frzA1_bp (s:S)(k o:Nat)(K:LV->S->Prop):frzA1 s (.bp k o) K=K (.bp k o) s:=(rfl)
@[go_sem ↓]theorem frzA1_ep (s:S)(x:D)(o:Nat)(K:LV->S->Prop):frzA1 s (.ep x o) K=K (.ep x o) s:=(rfl)
@[go_sem ↓]theorem frzA1_fn (s:S)(f:Fn)(xs ys:List LV)(K:LV->S->Prop):frzA1 s (.fn f xs ys) K=K (.fn f xs ys) s:=(rfl)
@[go_sem ↓]theorem frzA1_os (s:S)(r sz n:Nat)(K:LV->S->Prop):frzA1 s (.os r sz n) K=frz1 s (.os r sz n) fun d s'=>K (.d d) s':=(rfl)
@[go_sem ↓]theorem frzA1_ag (s:S)(xs:List LV)(K:LV->S->Prop):frzA1 s (.ag xs) K=frz s (.ag xs) fun d s'=>K (.d d) s':=(rfl)
@[go_sem ↓]theorem opK_app (E:Env)(sp:FuncId->Option SpecX)(s:S)(K:S->Prop)(Kp:D->S->Prop)(x y:Operand)(t t':TypeId)(d:Option Tmp):opK3 E sp d (.call ⟨.builtin .append,#[x,y],#[t,t']⟩) s K Kp=(t=t'/\sm (s.ev x) fun x=>sm (s.ev y) fun y=>appK E s d t x y K):=(rfl)
@[go_sem ↓]theorem opK_len (E:Env)(sp:FuncId->Option SpecX)(s:S)(K:S->Prop)(Kp:D->S->Prop)(x:Operand)(t:TypeId)(d:Option Tmp):opK3 E sp d (.call ⟨.builtin .len,#[x],#[t]⟩) s K Kp=sm (s.ev x) fun x=>mvK E x fun x=>lenM E s t x fun x=>dOk s d/\K (s.pt d x):=(rfl)
@[go_sem ↓]theorem opK_max (E:Env)(sp:FuncId->Option SpecX)(s:S)(K:S->Prop)(Kp:D->S->Prop)(x y:Operand)(t t':TypeId)(d:Option Tmp):opK3 E sp d (.call ⟨.builtin .max,#[x,y],#[t,t']⟩) s K Kp=sm (s.ev x) fun x=>sm (s.ev y) fun y=>mmK true x y fun x=>dOk s d/\K (s.pt d x):=(rfl)
@[go_sem ↓]theorem opK_min (E:Env)(sp:FuncId->Option SpecX)(s:S)(K:S->Prop)(Kp:D->S->Prop)(x y:Operand)(t t':TypeId)(d:Option Tmp):opK3 E sp d (.call ⟨.builtin .min,#[x,y],#[t,t']⟩) s K Kp=sm (s.ev x) fun x=>sm (s.ev y) fun y=>mmK false x y fun x=>dOk s d/\K (s.pt d x):=(rfl)
@[go_sem ↓]theorem mmK_t (k k':IntKind)(a b:Int)(K:LV->Prop):mmK true (.d (.int k a)) (.d (.int k' b)) K=(k=k'/\K (.d (.int k (if a<b then b else a)))):=(rfl)
@[go_sem ↓]theorem mmK_f (k k':IntKind)(a b:Int)(K:LV->Prop):mmK false (.d (.int k a)) (.d (.int k' b)) K=(k=k'/\K (.d (.int k (if b<a then b else a)))):=(rfl)
@[go_sem ↓]theorem opK_call (E:Env)(sp:FuncId->Option SpecX)(s:S)(K:S->Prop)(Kp:D->S->Prop)(f:Operand)(xs:Array Operand)(ts:Array TypeId)(d:Option Tmp):opK3 E sp d (.call ⟨.value f,xs,ts⟩) s K Kp=sm (s.ev f) fun f=>sm (s.evs (xs.toList.map fun x=>(0,x))) fun as'=>evW (as'.map (·.2)) (fun l=>callK E sp s d f l K Kp) ⟨⟩:=(rfl)
@[go_sem ↓]theorem slcK_st (E:Env)(s:S)(t:TypeId)(b:Bs)(lo hi:Option Operand)(K:LV->Prop):slcK E s t (.d (.st b)) lo hi K=sm (E.ti t) fun ti=>match ti.desc with
  |.str=>bndK s b.length lo hi fun l h=>K (.d (.st ((b.take h).drop l)))
  |_=>False:=by
  unfold slcK;congr;funext ti;cases ti.desc<;>first|exact Eq.refl _|(simp[D.asl,sm])
@[go_sem ↓]theorem slcK_sl (E:Env)(s:S)(t:TypeId)(sz:Nat)(xs:List D)(f:Bool)(lo hi:Option Operand)(K:LV->Prop):slcK E s t (.d (.sl sz xs f)) lo hi K=sm (E.ti t) fun ti=>match ti.desc with
  |.sli e=>sm (E.ti e) fun te=>sm (D.asl te.size (.sl sz xs f)) fun p=>bndK s p.1.length lo hi fun l h=>K (.d (.sl te.size ((p.1.take h).drop l) false))
  |_=>False:=by
  unfold slcK;congr;funext ti;cases ti.desc<;>exact Eq.refl _
@[go_sem ↓]theorem slcK_imm (E:Env)(s:S)(t:TypeId)(v:Value)(lo hi:Option Operand)(K:LV->Prop):slcK E s t (.d (.imm v)) lo hi K=sm (E.ti t) fun ti=>match ti.desc with
  |.sli e=>sm (E.ti e) fun te=>sm (D.asl te.size (.imm v)) fun p=>bndK s p.1.length lo hi fun l h=>K (.d (.sl te.size ((p.1.take h).drop l) false))
  |_=>False:=by
  unfold slcK;congr;funext ti;cases ti.desc<;>exact Eq.refl _
theorem lenK_0 {E:Env}{s:S}{t:TypeId}{x:LV}{K:LV->Prop}(h:x.ss=none):lenK E s t x K=lenK0 E s t x K:=by unfold lenK;rw[h]
@[go_sem ↓]theorem lenK_st (E:Env)(s:S)(t:TypeId)(b:Bs)(K:LV->Prop):lenK E s t (.d (.st b)) K=sm (E.ti t) fun ti=>match ti.desc with
  |.str=>K (.d (.int .i64 b.length))
  |_=>False:=by
  rw[lenK_0 rfl];unfold lenK0;congr;funext ti;cases ti.desc<;>first|exact Eq.refl _|(simp[D.asl,sm])
@[go_sem ↓]theorem lenK_sl (E:Env)(s:S)(t:TypeId)(sz:Nat)(xs:List D)(f:Bool)(K:LV->Prop):lenK E s t (.d (.sl sz xs f)) K=sm (E.ti t) fun ti=>match ti.desc with
  |.sli e=>sm (E.ti e) fun te=>sm (D.asl te.size (.sl sz xs f)) fun p=>K (.d (.int .i64 p.1.length))
  |_=>False:=by
  rw[lenK_0 rfl];unfold lenK0;congr;funext ti;cases ti.desc<;>exact Eq.refl _
@[go_sem ↓]theorem lenK_imm (E:Env)(s:S)(t:TypeId)(K:LV->Prop):lenK E s t (.d (.imm (.slice none 0 0))) K=sm (E.ti t) fun ti=>match ti.desc with
  |.sli e=>sm (E.ti e) fun te=>sm (D.asl te.size (.imm (.slice none 0 0))) fun p=>K (.d (.int .i64 p.1.length))
  |_=>False:=by
  rw[lenK_0 rfl];unfold lenK0;congr;funext ti;cases ti.desc<;>exact Eq.refl _
@[go_sem ↓]theorem lenK_ss (E:Env)(s:S)(t:TypeId)(b o n c:Nat)(K:LV->Prop):lenK E s t (.d (.imm (.slice (some ⟨b,o,none⟩) n c))) K=sm (E.ti t) fun ti=>match ti.desc with
  |.sli e=>sm (E.ti e) fun _=>K (.d (.int .i64 n))
  |_=>False:=(rfl)
@[go_sem ↓]theorem lenK_os (E:Env)(s:S)(t:TypeId)(r z n:Nat)(K:LV->Prop):lenK E s t (.os r z n) K=sm (E.ti t) fun ti=>match ti.desc with
  |.sli e=>sm (E.ti e) fun te=>sm (s.ar r) fun a=>n=a.2.2.length/\K (.d (.int .i64 n))
  |_=>False:=by
  rw[lenK_0 rfl];unfold lenK0;congr;funext ti;cases ti.desc<;>exact Eq.refl _
@[go_sem ↓]theorem cK_loop (E:Env)(sp:FuncId->Option SpecX)(c:Code)(s:S)(Q:Ex->S->Prop)(Kp:D->S->Prop):cK E sp (.loop c) s Q Kp=evW s (fun s=>Hold (cK E sp (.loop c) s Q Kp) ⟨⟩) ⟨⟩:=(rfl)
theorem qzj {E:Env}{sp:FuncId->Option SpecX}{c:Code}{s:S}{Q:Ex->S->Prop}{Kp:D->S->Prop}{w:Ph (cK E sp (.loop c) s Q Kp)}{T:Type}(st:T->S)(μ:T->Nat)(t:T)(h0:Sub s (st t))
  (h:∀t,cK E sp c (st t) (thenK (fun s'=>evW s' (fun s'=>Hold (∃t',Sub s' (st t')/\μ t'<μ t) ⟨⟩) ⟨⟩) Q) Kp):Hold (cK E sp (.loop c) s Q Kp) w:=
 ⟨[],T,st,μ,⟨t,h0⟩,h⟩
theorem qx4 {E:Env}{sp:FuncId->Option SpecX}{c:Code}{s:S}{Q:Ex->S->Prop}{Kp:D->S->Prop}{w:Ph (cK E sp (.loop c) s Q Kp)}(ks:List Nat){T:Type}(st:T->S)(μ:T->Nat)(t:T)(h0:fzbs ks s fun s=>evW s (fun s=>Hold (Sub s (st t)) ⟨⟩) ⟨⟩)
  (h:∀t,cK E sp c (st t) (thenK (fun s'=>evW s' (fun s'=>Hold (∃t',Sub s' (st t')/\μ t'<μ t) ⟨⟩) ⟨⟩) Q) Kp):Hold (cK E sp (.loop c) s Q Kp) w:=by
 refine⟨ks,zx9 (fun s hs=>?_) h0⟩;exact⟨T,st,μ,⟨t,hs⟩,h⟩
def callX (E:Env)(X:SpecX)(s:S)(d:Option Tmp)(l:List LV)(K:S->Prop)(Kp:D->S->Prop):Prop:=match X with
 |.a Sp=>callA Sp s d l K Kp
 |.b Sp=>callB Sp s d l K Kp
 |.c Sp=>callC E Sp s d l K Kp
@[go_sem ↓]theorem callK_eq (E:Env)(sp:FuncId->Option SpecX)(s:S)(d:Option Tmp)(f:FuncId)(first cap args:List LV)(K:S->Prop)(Kp:D->S->Prop):callK E sp s d (.fn (.func f) first cap) args K Kp=
  sm (sp f) fun X=>callX E X s d (first++args++cap) K Kp:=(rfl)
@[go_sem ↓]theorem callX_a (E:Env)(Sp:Spec)(s:S)(d:Option Tmp)(l:List LV)(K:S->Prop)(Kp:D->S->Prop):callX E (.a Sp) s d l K Kp=
  evW l (fun l=>frzA s l fun as' s'=>evW (ddp (kyss as')) (fun ks=>nodup ks=true/\okB s'.bx ks/\evW (rens ks as') (fun ys=>
   Hold (Sp ys (fp ks s'.bx) (fun x bx' a1=>dOk s d/\K (s'.ret d ks x bx' a1)) (fun p bx'=>Kp p {s' with bx:=mrg ks bx' s'.bx})) ⟨⟩) ⟨⟩) ⟨⟩) ⟨⟩:=(rfl)
@[go_sem ↓]theorem callX_b (E:Env)(Sp:Spec3)(s:S)(d:Option Tmp)(l:List LV)(K:S->Prop)(Kp:D->S->Prop):callX E (.b Sp) s d l K Kp=
  evW l (fun l=>lndA s l fun as' s=>evW (ddp (kyss as')) (fun ks=>nodup ks=true/\nodup ((M3 s.bx 0 ks).map (·.2))=true/\nodup ((M3 s.bx 0 ks).map (·.1))=true/\evW (rens ks as') (fun ys=>evW (fp3 s.bx 0 ks) (fun bxc=>evW (pa3 s.ar (M3 s.bx 0 ks)) (fun arc=>
   Hold (Sp ys bxc arc (fun x bx' ar'=>dOk s d/\nodup ((N3 bx' 0 ks).map (·.1))=true/\nodup ((N3 bx' 0 ks).map (·.2))=true/\K (s.back d (M3 s.bx 0 ks) (N3 bx' 0 ks) ks x bx' ar'))
    (fun p bx'=>N3 bx' 0 ks=[]/\Kp p (s.back none (M3 s.bx 0 ks) [] ks .un bx' nix))) ⟨⟩) ⟨⟩) ⟨⟩) ⟨⟩) ⟨⟩) ⟨⟩:=(rfl)
@[go_sem ↓]theorem callX_c (E:Env)(Sp:Spec)(s:S)(d:Option Tmp)(l:List LV)(K:S->Prop)(Kp:D->S->Prop):callX E (.c Sp) s d l K Kp=
  (E.hp=true/\evW l (fun l=>frzA s l fun as' s'=>evW (ddp (kyss as')) (fun ks=>nodup ks=true/\qvk ks=true/\okB s'.bx ks/\evW (rens ks as') (fun ys=>evW (ovS s'.bx (fp ks s'.bx)) (fun bxc=>
    Hold (Sp ys bxc (fun x bx' _=>dOk s d/\K (S.pt {s' with bx:=ovS bx' (mrg ks bx' s'.bx)} d (rn none x))) (fun p bx'=>Kp p {s' with bx:=ovS bx' (mrg ks bx' s'.bx)})) ⟨⟩) ⟨⟩) ⟨⟩) ⟨⟩) ⟨⟩):=(rfl)
@[go_sem]theorem short_nil:qvk []=true:=(rfl)
@[go_sem]theorem short_one (a:Nat):qvk [a]=decide (a<1000000):=by simp[qvk]
@[go_sem]theorem short_two (a b:Nat):qvk [a,b]=(decide (a<1000000)&&decide (b<1000000)):=by simp[qvk]
@[go_sem]theorem dC_nil:dC []=[]:=(rfl)
@[go_sem]theorem dC_d (x:D)(xs:List LV):dC (.d x::xs)=.d x::dC xs:=(rfl)
@[go_sem]theorem dC_un (xs:List LV):dC (.un::xs)=.un::dC xs:=(rfl)
@[go_sem]theorem dC_os (r z n:Nat)(xs:List LV):dC (.os r z n::xs)=.un::dC xs:=(rfl)
@[go_sem]theorem dC_bp (k o:Nat)(xs:List LV):dC (.bp k o::xs)=.un::dC xs:=(rfl)
@[go_sem]theorem dC_mapd (ds:List D):dC (ds.map LV.d)=ds.map LV.d:=by rw[dC_map]
@[go_sem]theorem zq4 (n:Nat):dC (List.replicate n .un)=List.replicate n .un:=by
  induction n with
  |zero=>rfl
  |succ n ih=>simp only[List.replicate_succ,dC,ih]
@[go_sem]theorem zqa (xs ys:List LV):dC (xs++ys)=dC xs++dC ys:=by
  induction xs with
  |nil=>rfl
  |cons x xs ih=>simp only[List.cons_append,dC,ih]
@[go_sem]theorem ovS_put (k:Nat)(b:Box)(f g:Bx):ovS (put k b f) g=if 1000000<=k then put k ⟨dC b.cells,b.ty⟩ (ovS f g)else ovS f g:=by
  funext j
  by_cases h:1000000<=k
  · rw[if_pos h];by_cases e:j=k
    ·subst e;simp only[ovS,put,if_pos h,if_true,Option.map_some]
    ·simp only[ovS,put,if_neg e]
  · rw[if_neg h];by_cases hj:1000000<=j
    · have e:j≠k:=by omega
      simp only[ovS,if_pos hj,put,if_neg e]
    ·simp only[ovS,if_neg hj]
@[go_sem]theorem ovS_put2 (k:Nat)(b:Box)(f g:Bx):ovS f (put k b g)=if 1000000<=k then ovS f g else put k b (ovS f g):=by
  funext j
  by_cases h:1000000<=k
  · rw[if_pos h];by_cases hj:1000000<=j
    ·simp only[ovS,if_pos hj]
    · have e:j≠k:=by omega
      simp only[ovS,if_neg hj,put,if_neg e]
  · rw[if_neg h];by_cases e:j=k
    ·subst e;simp only[ovS,put,if_neg h,if_true]
    ·simp only[ovS,put,if_neg e]
@[go_sem]theorem ovS_del (k:Nat)(f g:Bx):ovS (del k f) g=if 1000000<=k then del k (ovS f g)else ovS f g:=by
  funext j
  by_cases h:1000000<=k
  · rw[if_pos h];by_cases e:j=k
    ·subst e;simp only[ovS,del,if_pos h,if_true,Option.map_none]
    ·simp only[ovS,del,if_neg e]
  · rw[if_neg h];by_cases hj:1000000<=j
    · have e:j≠k:=by omega
      simp only[ovS,if_pos hj,del,if_neg e]
    ·simp only[ovS,if_neg hj]
@[go_sem]theorem ovS_del2 (k:Nat)(f g:Bx):ovS f (del k g)=if 1000000<=k then ovS f g else del k (ovS f g):=by
  funext j
  by_cases h:1000000<=k
  · rw[if_pos h];by_cases hj:1000000<=j
    ·simp only[ovS,if_pos hj]
    · have e:j≠k:=by omega
      simp only[ovS,if_neg hj,del,if_neg e]
  · rw[if_neg h];by_cases e:j=k
    ·subst e;simp only[ovS,del,if_neg h,if_true]
    ·simp only[ovS,del,if_neg e]
@[go_sem]theorem ovS_ov (f g h:Bx):ovS (ovS f g) h=ovS f h:=by
  funext j
  by_cases hj:1000000<=j
  ·simp only[ovS,if_pos hj];cases f j<;>simp[dC_dC]
  ·simp only[ovS,if_neg hj]
@[go_sem]theorem ovS_ov2 (f g h:Bx):ovS f (ovS g h)=ovS f h:=by
  funext j
  by_cases hj:1000000<=j
  ·simp only[ovS,if_pos hj]
  ·simp only[ovS,if_neg hj]
@[go_sem]theorem qw7 (f g:Bx)(j:Nat):ovS f g j=if 1000000<=j then(f j).map fun b=>⟨dC b.cells,b.ty⟩else g j:=(rfl)
@[go_sem]theorem fp_nil' (bx:Bx):fp [] bx=nix:=by
  funext j;unfold fp;split<;>simp[nth,nix]
theorem NS.ov {bx:Bx}(h:NS bx)(g:Bx):ovS bx bx=bx:=by
 funext j
 unfold ovS;split
 · cases e:bx j with
   |none=>rfl
   |some b=>
    obtain⟨cs,t⟩:=b;simp only[Option.map_some,h.dc _ _ e]
 ·rfl
theorem qz6 {α:Type}{f:Nat->Option α}:subm f f:=fun _ _ h=>h
def gets {α:Type}(o:Option α)(K:α->Prop)(_w:Ph K):Prop:=∀y,o=some y->K y
@[go_sem]theorem gets_some {α:Type}(x:α)(K:α->Prop)(w:Ph K):gets (some x) K w=K x:=by simp[gets]
@[go_sem]theorem gets_none {α:Type}(K:α->Prop)(w:Ph K):gets none K w=True:=by simp[gets]
@[go_sem ↓]theorem ldK_bp (s:S)(i:TI)(k off:Nat)(K:LV->Prop):ldK s i (.bp k off) K=sm (s.bx k) fun b=>b.ty<1000000/\sm (prt i off b.cells) K:=(rfl)
@[go_sem ↓]theorem ldK_ep (s:S)(i:TI)(x:D)(off:Nat)(K:LV->Prop):ldK s i (.ep x off) K=(x.flat=true/\sm (prt i off x.lcs) K):=(rfl)
@[go_sem ↓]theorem ldK_ap (s:S)(i:TI)(r sz n j o:Nat)(K:LV->Prop):ldK s i (.ap r sz n j o) K=sm (s.ar r) fun a=>a.1=sz/\n=a.2.2.length/\j<n/\gets a.2.2[j]? (fun x=>x.flat=true/\sm (prt i o x.lcs) K) ⟨⟩:=(rfl)
@[go_sem ↓]theorem ixK_eq (E:Env)(s:S)(t:TypeId)(x:LV)(i:Int)(K:LV->Prop):ixK0 E s t x i K=sm (E.ti t) fun ti=>
  match ti.desc with
  |.sli e=>sm (E.ti e) fun te=>
    match x with
    |.os r sz n=>sm (s.ar r) fun a=>n=a.2.2.length/\sz=te.size/\0<=i/\i<n/\K (.ap r sz n i.toNat 0)
    |.d x=>sm (x.asl te.size) fun p=>0<=i/\i<p.1.length/\gets p.1[i.toNat]? (fun y=>K (.ep y 0)) ⟨⟩
    |_=>False
  |.arr n e=>sm (E.ti e) fun te=>
    match x with
    |.bp k off=>0<=i/\i<n/\K (.bp k (off+i.toNat*te.size))
    |_=>False
  |_=>False:=(rfl)
@[go_sem ↓]theorem ixK_os (E:Env)(s:S)(t:TypeId)(r z n:Nat)(i:Int)(K:LV->Prop):ixK E s t (.os r z n) i K=ixK0 E s t (.os r z n) i K:=(rfl)
@[go_sem ↓]theorem ixK_bp (E:Env)(s:S)(t:TypeId)(k o:Nat)(i:Int)(K:LV->Prop):ixK E s t (.bp k o) i K=ixK0 E s t (.bp k o) i K:=(rfl)
@[go_sem ↓]theorem ixK_sl (E:Env)(s:S)(t:TypeId)(z:Nat)(xs:List D)(f:Bool)(i:Int)(K:LV->Prop):ixK E s t (.d (.sl z xs f)) i K=ixK0 E s t (.d (.sl z xs f)) i K:=(rfl)
@[go_sem ↓]theorem ixK_nil (E:Env)(s:S)(t:TypeId)(i:Int)(K:LV->Prop):ixK E s t (.d (.imm (.slice none 0 0))) i K=ixK0 E s t (.d (.imm (.slice none 0 0))) i K:=(rfl)
@[go_sem ↓]theorem ixK_ss (E:Env)(s:S)(t:TypeId)(b o n c:Nat)(i:Int)(K:LV->Prop):ixK E s t (.d (.imm (.slice (some ⟨b,o,none⟩) n c))) i K=sm (E.ti t) fun ti=>match ti.desc with
   |.sli e=>sm (E.ti e) fun te=>0<=i/\i<n/\K (.d (.imm (.pointer (some ⟨b,o+i.toNat*te.size,none⟩))))
   |_=>False:=(rfl)
@[go_sem ↓]theorem idxK_eq (E:Env)(t:TypeId)(x:LV)(i:Int)(K:LV->Prop):idxK E t x i K=sm (E.ti t) fun ti=>
  match ti.desc with
  |.str=>match x with
    |.d (.st b)=>0<=i/\i<b.length/\gets b[i.toNat]? (fun c=>K (.d (.int .u8 c.toNat))) ⟨⟩
    |_=>False
  |.arr n e=>sm (E.ti e) fun te=>sm (qqz x) fun xs=>0<=i/\i<n/\sm (prt te (i.toNat*te.size) xs) K
  |_=>False:=(rfl)
@[go_sem ↓]theorem opK_typeAssert (E:Env)(sp:FuncId->Option SpecX)(s:S)(K:S->Prop)(Kp:D->S->Prop)(x:Operand)(t t':TypeId)(ok:Bool)(d:Option Tmp):opK3 E sp d (.typeAssert x t t' ok) s K Kp=valK E (.typeAssert x t t' ok) s fun x=>dOk s d/\K (s.pt d x):=(rfl)
@[go_sem ↓]theorem opK_makeMap (E:Env)(sp:FuncId->Option SpecX)(s:S)(K:S->Prop)(Kp:D->S->Prop)(t:TypeId)(d:Option Tmp):opK3 E sp d (.makeMap t none) s K Kp=mkmK E s d K:=(rfl)
@[go_sem ↓]theorem opK_insert (E:Env)(sp:FuncId->Option SpecX)(s:S)(K:S->Prop)(Kp:D->S->Prop)(t:TypeId)(m k x:Operand)(d:Option Tmp):opK3 E sp d (.insert t m k x) s K Kp=(d=none/\sm (s.ev m) fun m=>sm (s.ev k) fun k=>sm (s.ev x) fun x=>mvK E m fun m=>insK E s t m k x K):=(rfl)
@[go_sem ↓]theorem opK_mapUpdate (E:Env)(sp:FuncId->Option SpecX)(s:S)(K:S->Prop)(Kp:D->S->Prop)(t:TypeId)(m k x:Operand)(d:Option Tmp):opK3 E sp d (.mapUpdate t m k x) s K Kp=(d=none/\sm (s.ev m) fun m=>sm (s.ev k) fun k=>sm (s.ev x) fun x=>mvK E m fun m=>insK E s t m k x K):=(rfl)
@[go_sem ↓]theorem opK_range (E:Env)(sp:FuncId->Option SpecX)(s:S)(K:S->Prop)(Kp:D->S->Prop)(t:TypeId)(x:Operand)(d:Option Tmp):opK3 E sp d (.range t x) s K Kp=sm (s.ev x) fun x=>rngK E s d t x K:=(rfl)
@[go_sem ↓]theorem opK_next (E:Env)(sp:FuncId->Option SpecX)(s:S)(K:S->Prop)(Kp:D->S->Prop)(x:Operand)(d:Option Tmp):opK3 E sp d (.next x false) s K Kp=sm (s.ev x) fun x=>nxtK s d x K:=(rfl)
@[go_sem ↓]theorem opK_entry (E:Env)(sp:FuncId->Option SpecX)(s:S)(K:S->Prop)(Kp:D->S->Prop)(x:Operand)(d:Option Tmp):opK3 E sp d (.entry x) s K Kp=sm (s.ev x) fun x=>entK s d x K:=(rfl)
@[go_sem ↓]theorem opK_lookup (E:Env)(sp:FuncId->Option SpecX)(s:S)(K:S->Prop)(Kp:D->S->Prop)(t:TypeId)(m k:Operand)(ok:Bool)(d:Option Tmp):opK3 E sp d (.lookup t m k ok) s K Kp=(sm (s.ev m) fun m=>sm (s.ev k) fun k=>mvK E m fun m=>lukK E s t m k ok fun x=>dOk s d/\K (s.pt d x)):=(rfl)
@[go_sem ↓]theorem mvK_mp (E:Env)(j:Nat)(K:LV->Prop):mvK E (.mp j) K=K (.mp j):=(rfl)
@[go_sem ↓]theorem mvK_imm (E:Env)(b:Nat)(K:LV->Prop):mvK E (.d (.imm (.map (some b)))) K=(E.hp=true/\K (.mp (b+1000000))):=(rfl)
@[go_sem ↓]theorem mvK_ss (E:Env)(a:Option Addr)(n c:Nat)(K:LV->Prop):mvK E (.d (.imm (.slice a n c))) K=K (.d (.imm (.slice a n c))):=(rfl)
@[go_sem ↓]theorem mvK_sl (E:Env)(z:Nat)(xs:List D)(f:Bool)(K:LV->Prop):mvK E (.d (.sl z xs f)) K=K (.d (.sl z xs f)):=(rfl)
@[go_sem ↓]theorem mvK_st (E:Env)(b:Bs)(K:LV->Prop):mvK E (.d (.st b)) K=K (.d (.st b)):=(rfl)
@[go_sem ↓]theorem mvK_os (E:Env)(r z n:Nat)(K:LV->Prop):mvK E (.os r z n) K=K (.os r z n):=(rfl)
@[go_sem ↓]theorem lenM_d (E:Env)(s:S)(t:TypeId)(x:D)(K:LV->Prop):lenM E s t (.d x) K=lenK E s t (.d x) K:=(rfl)
@[go_sem ↓]theorem lenM_os (E:Env)(s:S)(t:TypeId)(r z n:Nat)(K:LV->Prop):lenM E s t (.os r z n) K=lenK E s t (.os r z n) K:=(rfl)
@[go_sem ↓]theorem lenM_mp (E:Env)(s:S)(t:TypeId)(j:Nat)(K:LV->Prop):lenM E s t (.mp j) K=sm (E.ti t) fun ti=>match ti.desc with
   |.map _ _=>sm (s.bx j) fun b=>b.ty=1000000/\K (.d (.int .i64 (b.cells.length /2:Nat)))
   |_=>False:=(rfl)
@[go_sem ↓]theorem lukK_eq (E:Env)(s:S)(t:TypeId)(j:Nat)(k:D)(ok:Bool)(K:LV->Prop):lukK E s t (.mp j) (.d k) ok K=sm (E.ti t) fun ti=>match ti.desc with
  |.map kt vt=>sm (E.ti kt) fun ki=>sm (E.ti vt) fun vi=>sm (s.bx j) fun b=>b.ty=1000000/\kof ki k=true/\zzv ki b.cells=true/\evW (qw9 k b.cells) (fun o=>lukR ok vi.zero b.cells K o) ⟨⟩
  |_=>False:=by
  unfold lukK;congr
@[go_sem ↓]theorem lukR_some (ok:Bool)(z:Value)(cs:List LV)(K:LV->Prop)(i:Nat):lukR ok z cs K (some i)=sm cs[2*i+1]? fun v=>K (if ok then .tup [v,.d (.bool true)]else v):=(rfl)
@[go_sem ↓]theorem lukR_none (ok:Bool)(z:Value)(cs:List LV)(K:LV->Prop):lukR ok z cs K none=K (if ok then .tup [cv z,.d (.bool false)]else cv z):=(rfl)
@[go_sem ↓]theorem mkmK_some (E:Env)(s:S)(d:Nat)(K:S->Prop):mkmK E s (some d) K=(d<s.n/\d<1000/\if E.st d then E.hp=true/\∀b,s.bx (b+1000000)=none->K {n:=s.n,tm:=put d (.d (.imm (.map (some b)))) s.tm,bx:=put (b+1000000) ⟨[],1000000⟩ s.bx,ar:=s.ar}else K (s.nm d)):=(rfl)
@[go_sem ↓]theorem insK_eq (E:Env)(s:S)(t:TypeId)(j:Nat)(k:D)(x:LV)(K:S->Prop):insK E s t (.mp j) (.d k) x K=sm (E.ti t) fun ti=>match ti.desc with
  |.map kt _=>sm (E.ti kt) fun ki=>sm (s.bx j) fun b=>b.ty=1000000/\kof ki k=true/\zzv ki b.cells=true/\one x=true/\evW (mset b.cells k x) (fun cs=>K {s with bx:=put j ⟨cs,b.ty⟩ s.bx}) ⟨⟩
  |_=>False:=by
  unfold insK;congr
@[go_sem ↓]theorem rngK_eq (E:Env)(s:S)(d:Nat)(t:TypeId)(j:Nat)(K:S->Prop):rngK E s (some d) t (.mp j) K=sm (E.ti t) fun ti=>match ti.desc with
  |.map _ _=>sm (s.bx j) fun b=>b.ty=1000000/\d<s.n/\d<1000/\evW (1000001+b.cells.length /2) (fun n=>K (s.nb d [.mp j] n)) ⟨⟩
  |_=>False:=by
  unfold rngK;congr
@[go_sem ↓]theorem nxtK_eq (s:S)(d:Option Tmp)(r:Nat)(K:S->Prop):nxtK s d (.bp r 0) K=sm (s.bx r) fun b=>match b.cells with
   |.mp j::cs=>sm (zzm cs) fun seen=>sm (s.bx j) fun m=>m.ty=1000000/\b.ty=1000001+m.cells.length /2/\m.cells.length%2=0/\dOk s d/\evW s (fun s=>evW m.cells (fun mc=>Hold (nxt1 s d r j b.ty cs seen mc K) ⟨⟩/\Hold (nxt0 s d seen mc K) ⟨⟩) ⟨⟩) ⟨⟩
   |_=>False:=(rfl)
@[go_sem ↓]theorem entK_eq (s:S)(d:Option Tmp)(r:Nat)(K:S->Prop):entK s d (.bp r 0) K=sm (s.bx r) fun b=>match b.cells with
   |.mp j::cs=>sm (zzm cs) fun seen=>sm seen.getLast? fun i=>sm (s.bx j) fun m=>m.ty=1000000/\b.ty=1000001+m.cells.length /2/\dOk s d/\sm m.cells[2*i]? fun k=>sm m.cells[2*i+1]? fun v=>K (s.pt d (.tup [k,v]))
   |_=>False:=(rfl)
@[go_sem ↓]theorem ldX_bp (E:Env)(s:S)(i:TI)(k o:Nat)(K:LV->Prop):ldX E s i (.bp k o) K=ldK s i (.bp k o) K:=(rfl)
@[go_sem ↓]theorem ldX_ep (E:Env)(s:S)(i:TI)(x:D)(o:Nat)(K:LV->Prop):ldX E s i (.ep x o) K=ldK s i (.ep x o) K:=(rfl)
@[go_sem ↓]theorem ldX_ap (E:Env)(s:S)(i:TI)(r z n j o:Nat)(K:LV->Prop):ldX E s i (.ap r z n j o) K=ldK s i (.ap r z n j o) K:=(rfl)
@[go_sem ↓]theorem ldX_sp (E:Env)(s:S)(i:TI)(b o:Nat)(K:LV->Prop):ldX E s i (.d (.imm (.pointer (some ⟨b,o,none⟩)))) K=(E.hp=true/\ldK s i (.bp (b+1000000) o) K):=(rfl)
@[go_sem ↓]theorem ldA_tmp (E:Env)(s:S)(i:TI)(n:Nat)(K:LV->Prop):ldA E s i (.tmp n) K=sm (s.ev (.tmp n)) fun x=>ldX E s i x K:=(rfl)
@[go_sem ↓]theorem ldA_const (E:Env)(s:S)(i:TI)(v:Value)(K:LV->Prop):ldA E s i (.const v) K=sm (s.ev (.const v)) fun x=>ldX E s i x K:=(rfl)
@[go_sem ↓]theorem ldA_glo (E:Env)(s:S)(i:TI)(n:Nat)(K:LV->Prop):ldA E s i (.global n) K=(n=gErr/\i.agg=false/\Hold (gloK K) ⟨⟩):=(rfl)
@[go_sem]theorem gErr_eq:gErr=1:=(rfl)
def isSli:Dk->Bool
 |.sli _=>true
 |_=>false
theorem isSli_eq (d:Dk):(∃e,d=.sli e)=(isSli d=true):=by
 apply propext;cases d<;>simp[isSli]
@[go_sem]theorem isSli_sli (e:Nat):isSli (.sli e)=true:=(rfl)
@[go_sem]theorem slN_int (k:IntKind)(a:Int)(y:LV):slN (.d (.int k a)) y=none:=(rfl)
@[go_sem]theorem slN_st (a:Bs)(y:LV):slN (.d (.st a)) y=none:=(rfl)
@[go_sem]theorem slN_bool (a:Bool)(y:LV):slN (.d (.bool a)) y=none:=(rfl)
@[go_sem]theorem slN_ag (a:List D)(y:LV):slN (.d (.ag a)) y=none:=(rfl)
@[go_sem]theorem slN_ifc (t:TypeId)(a:D)(y:LV):slN (.d (.ifc t a)) y=none:=(rfl)
@[go_sem]theorem slN_nilI (y:LV):slN (.d (.imm .nilIface)) y=none:=(rfl)
@[go_sem]theorem slN_imm (a:Option Addr)(n c n' c':Nat):slN (.d (.imm (.slice a n c))) (.d (.imm (.slice none n' c')))=some (some a.isNone):=(rfl)
@[go_sem]theorem slN_c (z:Nat)(x:D)(xs:List D)(f:Bool)(n' c':Nat):slN (.d (.sl z (x::xs) f)) (.d (.imm (.slice none n' c')))=some (some false):=(rfl)
@[go_sem]theorem slN_n (z:Nat)(f:Bool)(n' c':Nat):slN (.d (.sl z [] f)) (.d (.imm (.slice none n' c')))=some none:=(rfl)
def binO (E:Env)(c:Bool)(op:BinOp)(t:TypeId)(x y:LV)(K:LV->Prop):Option (Option Bool)->Prop
 |some (some b)=>sm (E.ti t) fun i=>(∃e,i.desc=.sli e)/\eqK op b K
 |some none=>sm (E.ti t) fun i=>(∃e,i.desc=.sli e)/\∀b,eqK op b K
 |none=>binC E c op t x y K
@[go_sem ↓]theorem binS_eq (E:Env)(c:Bool)(op:BinOp)(t:TypeId)(x y:LV)(K:LV->Prop):binS E c op t x y K=evW (slN x y) (fun o=>binO E c op t x y K o) ⟨⟩:=by
  unfold binS evW
  generalize slN x y=o
  rcases o with _|_|b<;>rfl
@[go_sem ↓]theorem binO_none (E:Env)(c:Bool)(op:BinOp)(t:TypeId)(x y:LV)(K:LV->Prop):binO E c op t x y K none=binC E c op t x y K:=(rfl)
@[go_sem ↓]theorem binO_s (E:Env)(c:Bool)(op:BinOp)(t:TypeId)(x y:LV)(K:LV->Prop)(b:Bool):binO E c op t x y K (some (some b))=sm (E.ti t) fun i=>(isSli i.desc=true/\eqK op b K):=by
  show(sm (E.ti t) fun i=>(∃e,i.desc=.sli e)/\eqK op b K)=_
  congr;funext i;rw[isSli_eq]
@[go_sem ↓]theorem binO_n (E:Env)(c:Bool)(op:BinOp)(t:TypeId)(x y:LV)(K:LV->Prop):binO E c op t x y K (some none)=sm (E.ti t) fun i=>(isSli i.desc=true/\∀b,eqK op b K):=by
  show(sm (E.ti t) fun i=>(∃e,i.desc=.sli e)/\∀b,eqK op b K)=_
  congr;funext i;rw[isSli_eq]
@[go_sem ↓]theorem binC_ii (E:Env)(c:Bool)(op:BinOp)(t:TypeId)(k:IntKind)(a:Int)(k':IntKind)(b:Int)(K:LV->Prop):binC E c op t (.d (.int k a)) (.d (.int k' b)) K=iiK E op k a k' b K:=(rfl)
@[go_sem ↓]theorem binC_ss (E:Env)(c:Bool)(op:BinOp)(t:TypeId)(a b:Bs)(K:LV->Prop):binC E c op t (.d (.st a)) (.d (.st b)) K=stK op a b K:=(rfl)
@[go_sem ↓]theorem binC_bb (E:Env)(c:Bool)(op:BinOp)(t:TypeId)(a b:Bool)(K:LV->Prop):binC E c op t (.d (.bool a)) (.d (.bool b)) K=binK E op t (.d (.bool a)) (.d (.bool b)) K:=(rfl)
@[go_sem ↓]theorem binC_gg (E:Env)(c:Bool)(op:BinOp)(t:TypeId)(xs ys:List D)(K:LV->Prop):binC E c op t (.d (.ag xs)) (.d (.ag ys)) K=(sm (E.ti t) fun i=>i.cmp=true/\i.desc=.st i.fields/\fEqK E xs ys i.fields fun r=>eqK op r K):=(rfl)
@[go_sem ↓]theorem fEqK_n (E:Env)(xs ys:List D)(K:Bool->Prop):fEqK E xs ys [] K=K true:=(rfl)
@[go_sem ↓]theorem fEqK_c (E:Env)(xs ys:List D)(o:Nat)(t:TypeId)(fs:List (Nat×TypeId))(K:Bool->Prop):fEqK E xs ys ((o,t)::fs) K=(sm (E.ti t) fun i=>sm xs[o]? fun x=>sm ys[o]? fun y=>sEqK i.desc x y fun r=>fEqK E xs ys fs fun q=>K (r&&q)):=(rfl)
@[go_sem ↓]theorem sEqK_i (k k1 k2:IntKind)(a b:Int)(K:Bool->Prop):sEqK (.int k) (.int k1 a) (.int k2 b) K=(k1=k2/\K (a==b)):=(rfl)
@[go_sem ↓]theorem sEqK_s (a b:Bs)(K:Bool->Prop):sEqK .str (.st a) (.st b) K=K (a==b):=(rfl)
@[go_sem ↓]theorem sEqK_b (a b:Bool)(K:Bool->Prop):sEqK .boo (.bool a) (.bool b) K=K (a==b):=(rfl)
@[go_sem ↓]theorem binC_nn (E:Env)(c:Bool)(op:BinOp)(t:TypeId)(K:LV->Prop):binC E c op t (.d (.imm .nilIface)) (.d (.imm .nilIface)) K=(c=true/\sm (E.ti t) fun i=>i.desc=.ifc/\eqK op true K):=(rfl)
@[go_sem ↓]theorem binC_in (E:Env)(c:Bool)(op:BinOp)(t t':TypeId)(x:D)(K:LV->Prop):binC E c op t (.d (.ifc t' x)) (.d (.imm .nilIface)) K=(sm (E.ti t) fun i=>i.desc=.ifc/\eqK op false K):=(rfl)
@[go_sem ↓]theorem binC_ni (E:Env)(c:Bool)(op:BinOp)(t t':TypeId)(x:D)(K:LV->Prop):binC E c op t (.d (.imm .nilIface)) (.d (.ifc t' x)) K=(sm (E.ti t) fun i=>i.desc=.ifc/\eqK op false K):=(rfl)
@[go_sem ↓]theorem binC_cc (E:Env)(c:Bool)(op:BinOp)(t t1 t2:TypeId)(k k':IntKind)(a b:Int)(K:LV->Prop):binC E c op t (.d (.ifc t1 (.int k a))) (.d (.ifc t2 (.int k' b))) K=(sm (E.ti t) fun i=>i.desc=.ifc/\t1=t2/\k=k'/\sm (E.ti t1) fun j=>j.desc=.int k/\j.cmp=true/\eqK op (a==b) K):=(rfl)
@[go_sem ↓]theorem eqK_e1:type_of% @eqK.eq_1:=by intros;apply nr;apply eqK.eq_1<;>assumption
@[go_sem ↓]theorem eqK_e2:type_of% @eqK.eq_2:=by intros;apply nr;apply eqK.eq_2<;>assumption
@[go_sem ↓]theorem iiK_e1:type_of% @iiK.eq_1:=by intros;apply nr;apply iiK.eq_1<;>assumption
@[go_sem ↓]theorem iiK_e2:type_of% @iiK.eq_2:=by intros;apply nr;apply iiK.eq_2<;>assumption
@[go_sem ↓]theorem iiK_e3:type_of% @iiK.eq_3:=by intros;apply nr;apply iiK.eq_3<;>assumption
@[go_sem ↓]theorem taK_ifc (t:TypeId)(i:TI)(ok:Bool)(t':TypeId)(y:D)(K:LV->Prop):taK t i ok (.d (.ifc t' y)) K=match i.desc with
  |.ifc=>False
  |_=>(t'=t->K (if ok then .tup [.d y,.d (.bool true)]else .d y))/\(t'≠t->ok=true/\K (.tup [cv i.zero,.d (.bool false)])):=by
  unfold taK;cases i.desc<;>exact Eq.refl _
@[go_sem ↓]theorem taK_nil (t:TypeId)(i:TI)(ok:Bool)(K:LV->Prop):taK t i ok (.d (.imm .nilIface)) K=match i.desc with
  |.ifc=>False
  |_=>ok=true/\K (.tup [cv i.zero,.d (.bool false)]):=by
  unfold taK;cases i.desc<;>exact Eq.refl _
@[go_sem ↓]theorem frzA1_mp (s:S)(k:Nat)(K:LV->S->Prop):frzA1 s (.mp k) K=K (.mp k) s:=(rfl)
@[go_sem]theorem gsl_e1:type_of% @gsl.eq_1:=by intros;apply nr;apply gsl.eq_1<;>assumption
@[go_sem]theorem fzb_e1:type_of% @fzb.eq_1:=by intros;apply nr;apply fzb.eq_1<;>assumption
@[go_sem]theorem fzb_e2:type_of% @fzb.eq_2:=by intros;apply nr;apply fzb.eq_2<;>assumption
@[go_sem]theorem fzb_e3:type_of% @fzb.eq_3:=by intros;apply nr;apply fzb.eq_3<;>assumption
@[go_sem]theorem fzb_e4:type_of% @fzb.eq_4:=by intros;apply nr;apply fzb.eq_4<;>assumption
@[go_sem]theorem fzb_e5:type_of% @fzb.eq_5:=by intros;apply nr;apply fzb.eq_5<;>assumption
@[go_sem]theorem fzb_e6:type_of% @fzb.eq_6:=by intros;apply nr;apply fzb.eq_6<;>assumption
@[go_sem]theorem fzb_e7:type_of% @fzb.eq_7:=by intros;apply nr;apply fzb.eq_7<;>assumption
@[go_sem]theorem fzb_e8:type_of% @fzb.eq_8:=by intros;apply nr;apply fzb.eq_8<;>assumption
@[go_sem]theorem fzb_e9:type_of% @fzb.eq_9:=by intros;apply nr;apply fzb.eq_9<;>assumption
@[go_sem]theorem fzb_e10:type_of% @fzb.eq_10:=by intros;apply nr;apply fzb.eq_10<;>assumption
@[go_sem]theorem fzbL_e1:type_of% @fzbL.eq_1:=by intros;apply nr;apply fzbL.eq_1<;>assumption
@[go_sem]theorem fzbL_e2:type_of% @fzbL.eq_2:=by intros;apply nr;apply fzbL.eq_2<;>assumption
@[go_sem]theorem Box.fzb_e1:type_of% @Box.fzb.eq_1:=by intros;apply nr;apply Box.fzb.eq_1<;>assumption
@[go_sem]theorem S.fzb_e1:type_of% @S.fzb.eq_1:=by intros;apply nr;apply S.fzb.eq_1<;>assumption
@[go_sem]theorem tyo_e1:type_of% @tyo.eq_1:=by intros;apply nr;apply tyo.eq_1<;>assumption
@[go_sem]theorem lnt_e1:type_of% @lnt.eq_1:=by intros;apply nr;apply lnt.eq_1<;>assumption
@[go_sem]theorem cn_e1:type_of% @cn.eq_1:=by intros;apply nr;apply cn.eq_1<;>assumption
@[go_sem]theorem cnC_e1:type_of% @cnC.eq_1:=by intros;apply nr;apply cnC.eq_1<;>assumption
@[go_sem]theorem cnC_e2:type_of% @cnC.eq_2:=by intros;apply nr;apply cnC.eq_2<;>assumption
@[go_sem]theorem cnM_e1:type_of% @cnM.eq_1:=by intros;apply nr;apply cnM.eq_1<;>assumption
@[go_sem]theorem cnM_e2:type_of% @cnM.eq_2:=by intros;apply nr;apply cnM.eq_2<;>assumption
@[go_sem]theorem fp3_e1:type_of% @fp3.eq_1:=by intros;apply nr;apply fp3.eq_1<;>assumption
@[go_sem]theorem fp3_e2:type_of% @fp3.eq_2:=by intros;apply nr;apply fp3.eq_2<;>assumption
@[go_sem]theorem M3_e1:type_of% @M3.eq_1:=by intros;apply nr;apply M3.eq_1<;>assumption
@[go_sem]theorem M3_e2:type_of% @M3.eq_2:=by intros;apply nr;apply M3.eq_2<;>assumption
@[go_sem]theorem pa3_e1:type_of% @pa3.eq_1:=by intros;apply nr;apply pa3.eq_1<;>assumption
@[go_sem]theorem pa3_e2:type_of% @pa3.eq_2:=by intros;apply nr;apply pa3.eq_2<;>assumption
@[go_sem]theorem N3_e1:type_of% @N3.eq_1:=by intros;apply nr;apply N3.eq_1<;>assumption
@[go_sem]theorem N3_e2:type_of% @N3.eq_2:=by intros;apply nr;apply N3.eq_2<;>assumption
@[go_sem]theorem bb3_e1:type_of% @bb3.eq_1:=by intros;apply nr;apply bb3.eq_1<;>assumption
@[go_sem]theorem bb3_e2:type_of% @bb3.eq_2:=by intros;apply nr;apply bb3.eq_2<;>assumption
@[go_sem]theorem ab3_e1:type_of% @ab3.eq_1:=by intros;apply nr;apply ab3.eq_1<;>assumption
@[go_sem]theorem ab3_e2:type_of% @ab3.eq_2:=by intros;apply nr;apply ab3.eq_2<;>assumption
@[go_sem]theorem fgM_e1:type_of% @fgM.eq_1:=by intros;apply nr;apply fgM.eq_1<;>assumption
@[go_sem]theorem fgM_e2:type_of% @fgM.eq_2:=by intros;apply nr;apply fgM.eq_2<;>assumption
@[go_sem]theorem fgB_e1:type_of% @fgB.eq_1:=by intros;apply nr;apply fgB.eq_1<;>assumption
@[go_sem]theorem fgB_e2:type_of% @fgB.eq_2:=by intros;apply nr;apply fgB.eq_2<;>assumption
@[go_sem]theorem delL_e1:type_of% @delL.eq_1:=by intros;apply nr;apply delL.eq_1<;>assumption
@[go_sem]theorem delL_e2:type_of% @delL.eq_2:=by intros;apply nr;apply delL.eq_2<;>assumption
@[go_sem]theorem unC_e1:type_of% @unC.eq_1:=by intros;apply nr;apply unC.eq_1<;>assumption
@[go_sem]theorem unC_e2:type_of% @unC.eq_2:=by intros;apply nr;apply unC.eq_2<;>assumption
@[go_sem]theorem outU_e1:type_of% @outU.eq_1:=by intros;apply nr;apply outU.eq_1<;>assumption
@[go_sem]theorem outU_e2:type_of% @outU.eq_2:=by intros;apply nr;apply outU.eq_2<;>assumption
@[go_sem]theorem S.back_e1:type_of% @S.back.eq_1:=by intros;apply nr;apply S.back.eq_1<;>assumption
@[go_sem]theorem puta_e1:type_of% @puta.eq_1:=by intros;apply nr;apply puta.eq_1<;>assumption
@[go_sem]theorem puta_e2:type_of% @puta.eq_2:=by intros;apply nr;apply puta.eq_2<;>assumption
@[go_sem]theorem okD_e1:type_of% @okD.eq_1:=by intros;apply nr;apply okD.eq_1<;>assumption
@[go_sem]theorem okD_e2:type_of% @okD.eq_2:=by intros;apply nr;apply okD.eq_2<;>assumption
@[go_sem]theorem one1_e1:type_of% @one1.eq_1:=by intros;apply nr;apply one1.eq_1<;>assumption
@[go_sem]theorem one1_e2:type_of% @one1.eq_2:=by intros;apply nr;apply one1.eq_2<;>assumption
@[go_sem]theorem prt_e1:type_of% @prt.eq_1:=by intros;apply nr;apply prt.eq_1<;>assumption
@[go_sem]theorem allD_e1:type_of% @allD.eq_1:=by intros;apply nr;apply allD.eq_1<;>assumption
@[go_sem]theorem allD_e2:type_of% @allD.eq_2:=by intros;apply nr;apply allD.eq_2<;>assumption
@[go_sem]theorem allD_e3:type_of% @allD.eq_3:=by intros;apply nr;apply allD.eq_3<;>assumption
@[go_sem]theorem fillP_e1:type_of% @fillP.eq_1:=by intros;apply nr;apply fillP.eq_1<;>assumption
@[go_sem]theorem fillP_e2:type_of% @fillP.eq_2:=by intros;apply nr;apply fillP.eq_2<;>assumption
@[go_sem]theorem place_e1:type_of% @place.eq_1:=by intros;apply nr;apply place.eq_1<;>assumption
@[go_sem]theorem fldOff_e1:type_of% @fldOff.eq_1:=by intros;apply nr;apply fldOff.eq_1<;>assumption
@[go_sem]theorem S.ev_e1:type_of% @S.ev.eq_1:=by intros;apply nr;apply S.ev.eq_1<;>assumption
@[go_sem]theorem S.ev_e2:type_of% @S.ev.eq_2:=by intros;apply nr;apply S.ev.eq_2<;>assumption
@[go_sem]theorem S.ev_e3:type_of% @S.ev.eq_3:=by intros;apply nr;apply S.ev.eq_3<;>assumption
@[go_sem]theorem S.ev_e4:type_of% @S.ev.eq_4:=by intros;apply nr;apply S.ev.eq_4<;>assumption
@[go_sem]theorem S.evs_e1:type_of% @S.evs.eq_1:=by intros;apply nr;apply S.evs.eq_1<;>assumption
@[go_sem]theorem S.evs_e2:type_of% @S.evs.eq_2:=by intros;apply nr;apply S.evs.eq_2<;>assumption
@[go_sem]theorem S.pt_e1:type_of% @S.pt.eq_1:=by intros;apply nr;apply S.pt.eq_1<;>assumption
@[go_sem]theorem S.pt_e2:type_of% @S.pt.eq_2:=by intros;apply nr;apply S.pt.eq_2<;>assumption
@[go_sem]theorem S.nb_e1:type_of% @S.nb.eq_1:=by intros;apply nr;apply S.nb.eq_1<;>assumption
@[go_sem]theorem S.na_e1:type_of% @S.na.eq_1:=by intros;apply nr;apply S.na.eq_1<;>assumption
@[go_sem]theorem D.el_e1:type_of% @D.el.eq_1:=by intros;apply nr;apply D.el.eq_1<;>assumption
@[go_sem]theorem dOk_e1:type_of% @dOk.eq_1:=by intros;apply nr;apply dOk.eq_1<;>assumption
@[go_sem]theorem dOk_e2:type_of% @dOk.eq_2:=by intros;apply nr;apply dOk.eq_2<;>assumption
@[go_sem]theorem fgt_e1:type_of% @fgt.eq_1:=by intros;apply nr;apply fgt.eq_1<;>assumption
@[go_sem]theorem fgt_e2:type_of% @fgt.eq_2:=by intros;apply nr;apply fgt.eq_2<;>assumption
@[go_sem]theorem fgt_e3:type_of% @fgt.eq_3:=by intros;apply nr;apply fgt.eq_3<;>assumption
@[go_sem]theorem fgt_e4:type_of% @fgt.eq_4:=by intros;apply nr;apply fgt.eq_4<;>assumption
@[go_sem]theorem fgt_e5:type_of% @fgt.eq_5:=by intros;apply nr;apply fgt.eq_5<;>assumption
@[go_sem]theorem fgt_e6:type_of% @fgt.eq_6:=by intros;apply nr;apply fgt.eq_6<;>assumption
@[go_sem]theorem fgt_e7:type_of% @fgt.eq_7:=by intros;apply nr;apply fgt.eq_7<;>assumption
@[go_sem]theorem fgt_e8:type_of% @fgt.eq_8:=by intros;apply nr;apply fgt.eq_8<;>assumption
@[go_sem]theorem fgt_e9:type_of% @fgt.eq_9:=by intros;apply nr;apply fgt.eq_9<;>assumption
@[go_sem]theorem fgts_e1:type_of% @fgts.eq_1:=by intros;apply nr;apply fgts.eq_1<;>assumption
@[go_sem]theorem fgts_e2:type_of% @fgts.eq_2:=by intros;apply nr;apply fgts.eq_2<;>assumption
@[go_sem]theorem Box.fgt_e1:type_of% @Box.fgt.eq_1:=by intros;apply nr;apply Box.fgt.eq_1<;>assumption
@[go_sem]theorem rns_e1:type_of% @rns.eq_1:=by intros;apply nr;apply rns.eq_1<;>assumption
@[go_sem]theorem rns_e2:type_of% @rns.eq_2:=by intros;apply nr;apply rns.eq_2<;>assumption
@[go_sem]theorem rnrs_e1:type_of% @rnrs.eq_1:=by intros;apply nr;apply rnrs.eq_1<;>assumption
@[go_sem]theorem rnrs_e2:type_of% @rnrs.eq_2:=by intros;apply nr;apply rnrs.eq_2<;>assumption
@[go_sem]theorem rens_e1:type_of% @rens.eq_1:=by intros;apply nr;apply rens.eq_1<;>assumption
@[go_sem]theorem rens_e2:type_of% @rens.eq_2:=by intros;apply nr;apply rens.eq_2<;>assumption
@[go_sem]theorem kyss_e1:type_of% @kyss.eq_1:=by intros;apply nr;apply kyss.eq_1<;>assumption
@[go_sem]theorem kyss_e2:type_of% @kyss.eq_2:=by intros;apply nr;apply kyss.eq_2<;>assumption
@[go_sem]theorem ixof_e1:type_of% @ixof.eq_1:=by intros;apply nr;apply ixof.eq_1<;>assumption
@[go_sem]theorem ixof_e2:type_of% @ixof.eq_2:=by intros;apply nr;apply ixof.eq_2<;>assumption
@[go_sem]theorem nodup_e1:type_of% @nodup.eq_1:=by intros;apply nr;apply nodup.eq_1<;>assumption
@[go_sem]theorem nodup_e2:type_of% @nodup.eq_2:=by intros;apply nr;apply nodup.eq_2<;>assumption
@[go_sem]theorem nth_e1:type_of% @nth.eq_1:=by intros;apply nr;apply nth.eq_1<;>assumption
@[go_sem]theorem okB_e1:type_of% @okB.eq_1:=by intros;apply nr;apply okB.eq_1<;>assumption
@[go_sem]theorem okB_e2:type_of% @okB.eq_2:=by intros;apply nr;apply okB.eq_2<;>assumption
@[go_sem]theorem outB_e1:type_of% @outB.eq_1:=by intros;apply nr;apply outB.eq_1<;>assumption
@[go_sem]theorem outB_e2:type_of% @outB.eq_2:=by intros;apply nr;apply outB.eq_2<;>assumption
@[go_sem]theorem one_mp (j:Nat):one (.mp j)=true:=(rfl)
@[go_sem]theorem lcells_mp (j:Nat):qqz (.mp j)=none:=(rfl)
@[go_sem]theorem pcs_mp (j:Nat):pcs (.mp j)=some [.mp j]:=(rfl)
@[go_sem]theorem allD_mp (j:Nat)(l:List LV):allD (.mp j::l)=none:=(rfl)
@[go_sem]theorem ren_mp (ks:List Nat)(j:Nat):ren ks (.mp j)=.mp (1000+ixof j ks):=(rfl)
@[go_sem]theorem rn_mp (q:Option Nat)(j:Nat):rn q (.mp j)=.un:=(rfl)
@[go_sem]theorem rnr_mp (r:Nat)(j:Nat):rnr r (.mp j)=.un:=(rfl)
@[go_sem]theorem kys_mp (j:Nat):kys (.mp j)=[j]:=(rfl)
@[go_sem]theorem fgt_mp (k j:Nat):fgt k (.mp j)=if j=k then .un else .mp j:=by rw[Lx.fgt]
@[go_sem]theorem S.nm_eq (s:S)(d:Nat):s.nm d={n:=s.n,tm:=put d (.mp d) (mapf (fgt d) s.tm),bx:=put d ⟨[],1000000⟩ (mapf (Box.fgt d) s.bx),ar:=s.ar}:=(rfl)
@[go_sem]theorem isC_const (v:Value):isC (.const v)=true:=(rfl)
@[go_sem]theorem isC_tmp (n:Nat):isC (.tmp n)=false:=(rfl)
@[go_sem]theorem kof_int (i:TI)(k:IntKind)(n:Int):kof i (.int k n)=match i.desc with|.int k'=>decide (k=k')|_=>false:=(rfl)
@[go_sem]theorem kof_st (i:TI)(b:Bs):kof i (.st b)=match i.desc with|.str=>true|_=>false:=(rfl)
@[go_sem]theorem keq_int (k k':IntKind)(a b:Int):keq (.int k a) (.int k' b)=(decide (k=k')&&a==b):=(rfl)
@[go_sem]theorem keq_st (a b:Bs):keq (.st a) (.st b)=(a==b):=(rfl)
@[go_sem]theorem mkeys_nil (i:TI):zzv i []=true:=(rfl)
@[go_sem]theorem mkeys_cons (i:TI)(k:D)(x:LV)(r:List LV):zzv i (.d k::x::r)=(kof i k&&zzv i r):=(rfl)
@[go_sem]theorem mfind_nil (k:D):qw9 k []=none:=(rfl)
@[go_sem]theorem mfind_cons (k k':D)(x:LV)(r:List LV):qw9 k (.d k'::x::r)=if keq k k' then some 0 else(qw9 k r).map (· +1):=(rfl)
@[go_sem]theorem mset_eq (cs:List LV)(k:D)(x:LV):mset cs k x=match qw9 k cs with
  |some i=>cs.set (2*i+1) x
  |none=>cs++[.d k,x]:=(rfl)
@[go_sem]theorem seenL_nil:zzm []=some []:=(rfl)
@[go_sem]theorem seenL_cons (k:IntKind)(n:Int)(r:List LV):zzm (.d (.int k n)::r)=(zzm r).map (n.toNat:: ·):=(rfl)
@[go_sem]theorem fz_os (r n:Nat)(x:D)(j z m:Nat):fz r n x (.os j z m)=if j=r then(if m=n then .d x else .un)else .os j z m:=by rw[Lx.fz]
@[go_sem]theorem fz_ag (r n:Nat)(x:D)(xs:List LV):fz r n x (.ag xs)=.ag (fzs r n x xs):=by rw[Lx.fz]
@[go_sem]theorem fz_bp (r n:Nat)(x:D)(j o:Nat):fz r n x (.bp j o)=.bp j o:=by rw[Lx.fz]
@[go_sem]theorem fz_mp (r n:Nat)(x:D)(j:Nat):fz r n x (.mp j)=.mp j:=by rw[Lx.fz]
@[go_sem]theorem fz_ap (r n:Nat)(x:D)(j z m i o:Nat):fz r n x (.ap j z m i o)=.ap j z m i o:=by rw[Lx.fz]
@[go_sem]theorem fz_d (r n:Nat)(x y:D):fz r n x (.d y)=.d y:=by rw[Lx.fz]
@[go_sem]theorem fz_ep (r n:Nat)(x y:D)(o:Nat):fz r n x (.ep y o)=.ep y o:=by rw[Lx.fz]
@[go_sem]theorem fz_un (r n:Nat)(x:D):fz r n x .un=.un:=by rw[Lx.fz]
@[go_sem]theorem fz_fn (r n:Nat)(x:D)(f:Fn)(xs ys:List LV):fz r n x (.fn f xs ys)=.fn f (fzs r n x xs) (fzs r n x ys):=by rw[Lx.fz]
@[go_sem]theorem fz_tup (r n:Nat)(x:D)(xs:List LV):fz r n x (.tup xs)=.tup (fzs r n x xs):=by rw[Lx.fz]
@[go_sem]theorem fzs_nil (r n:Nat)(x:D):fzs r n x []=[]:=by rw[Lx.fzs]
@[go_sem]theorem fzs_cons (r n:Nat)(x:D)(y:LV)(ys:List LV):fzs r n x (y::ys)=fz r n x y::fzs r n x ys:=by rw[Lx.fzs]
@[go_sem]theorem boxfz (r n:Nat)(x:D)(cs:List LV)(t:TypeId):Box.fz r n x ⟨cs,t⟩=⟨fzs r n x cs,t⟩:=(rfl)
@[go_sem]theorem one_dint (k:IntKind)(n:Int):one (.d (.int k n))=true:=(rfl)
@[go_sem]theorem one_dbool (b:Bool):one (.d (.bool b))=true:=(rfl)
@[go_sem]theorem one_dst (b:Bs):one (.d (.st b))=true:=(rfl)
@[go_sem]theorem one_dag (xs:List D):one (.d (.ag xs))=false:=(rfl)
@[go_sem]theorem one_dsl (z:Nat)(xs:List D)(f:Bool):one (.d (.sl z xs f))=true:=(rfl)
@[go_sem]theorem one_difc (t:TypeId)(x:D):one (.d (.ifc t x))=true:=(rfl)
@[go_sem]theorem one_dimm (v:Value):one (.d (.imm v))=v.oneCell':=(rfl)
@[go_sem]theorem one_bp (j o:Nat):one (.bp j o)=true:=(rfl)
@[go_sem]theorem one_os (j z n:Nat):one (.os j z n)=true:=(rfl)
@[go_sem]theorem one_ap (j z n i o:Nat):one (.ap j z n i o)=true:=(rfl)
@[go_sem]theorem one_ep (x:D)(o:Nat):one (.ep x o)=true:=(rfl)
@[go_sem]theorem one_ag (xs:List LV):one (.ag xs)=false:=(rfl)
@[go_sem]theorem one_fn (f:Fn)(xs ys:List LV):one (.fn f xs ys)=true:=(rfl)
@[go_sem]theorem one_tup (xs:List LV):one (.tup xs)=false:=(rfl)
@[go_sem]theorem one_un:one (.un)=false:=(rfl)
@[go_sem]theorem cs_int (k:IntKind)(n:Int):D.cs (.int k n)=[.int k n]:=(rfl)
@[go_sem]theorem lcs_int (k:IntKind)(n:Int):D.lcs (.int k n)=[.d (.int k n)]:=(rfl)
@[go_sem]theorem flat_int (k:IntKind)(n:Int):D.flat (.int k n)=true:=(rfl)
@[go_sem]theorem lcells_dint (k:IntKind)(n:Int):qqz (.d (.int k n))=none:=(rfl)
@[go_sem]theorem cs_bool (b:Bool):D.cs (.bool b)=[.bool b]:=(rfl)
@[go_sem]theorem lcs_bool (b:Bool):D.lcs (.bool b)=[.d (.bool b)]:=(rfl)
@[go_sem]theorem flat_bool (b:Bool):D.flat (.bool b)=true:=(rfl)
@[go_sem]theorem lcells_dbool (b:Bool):qqz (.d (.bool b))=none:=(rfl)
@[go_sem]theorem cs_st (b:Bs):D.cs (.st b)=[.st b]:=(rfl)
@[go_sem]theorem lcs_st (b:Bs):D.lcs (.st b)=[.d (.st b)]:=(rfl)
@[go_sem]theorem flat_st (b:Bs):D.flat (.st b)=true:=(rfl)
@[go_sem]theorem lcells_dst (b:Bs):qqz (.d (.st b))=none:=(rfl)
@[go_sem]theorem cs_ag (xs:List D):D.cs (.ag xs)=xs:=(rfl)
@[go_sem]theorem lcs_ag (xs:List D):D.lcs (.ag xs)=xs.map .d:=(rfl)
@[go_sem]theorem flat_ag (xs:List D):D.flat (.ag xs)=true:=(rfl)
@[go_sem]theorem lcells_dag (xs:List D):qqz (.d (.ag xs))=some (xs.map .d):=(rfl)
@[go_sem]theorem cs_sl (z:Nat)(xs:List D)(f:Bool):D.cs (.sl z xs f)=[.sl z xs f]:=(rfl)
@[go_sem]theorem lcs_sl (z:Nat)(xs:List D)(f:Bool):D.lcs (.sl z xs f)=[.d (.sl z xs f)]:=(rfl)
@[go_sem]theorem flat_sl (z:Nat)(xs:List D)(f:Bool):D.flat (.sl z xs f)=true:=(rfl)
@[go_sem]theorem lcells_dsl (z:Nat)(xs:List D)(f:Bool):qqz (.d (.sl z xs f))=none:=(rfl)
@[go_sem]theorem cs_ifc (t:TypeId)(x:D):D.cs (.ifc t x)=[.ifc t x]:=(rfl)
@[go_sem]theorem lcs_ifc (t:TypeId)(x:D):D.lcs (.ifc t x)=[.d (.ifc t x)]:=(rfl)
@[go_sem]theorem flat_ifc (t:TypeId)(x:D):D.flat (.ifc t x)=true:=(rfl)
@[go_sem]theorem lcells_difc (t:TypeId)(x:D):qqz (.d (.ifc t x))=none:=(rfl)
@[go_sem]theorem cs_imm (v:Value):D.cs (.imm v)=[.imm v]:=(rfl)
@[go_sem]theorem lcs_imm (v:Value):D.lcs (.imm v)=[.d (.imm v)]:=(rfl)
@[go_sem]theorem flat_imm (v:Value):D.flat (.imm v)=v.oneCell':=(rfl)
@[go_sem]theorem lcells_dimm (v:Value):qqz (.d (.imm v))=none:=(rfl)
@[go_sem]theorem lcells_bp (j o:Nat):qqz (.bp j o)=none:=(rfl)
@[go_sem]theorem lcells_os (j z n:Nat):qqz (.os j z n)=none:=(rfl)
@[go_sem]theorem lcells_ap (j z n i o:Nat):qqz (.ap j z n i o)=none:=(rfl)
@[go_sem]theorem lcells_ep (x:D)(o:Nat):qqz (.ep x o)=none:=(rfl)
@[go_sem]theorem lcells_ag (xs:List LV):qqz (.ag xs)=some xs:=(rfl)
@[go_sem]theorem lcells_fn (f:Fn)(xs ys:List LV):qqz (.fn f xs ys)=none:=(rfl)
@[go_sem]theorem lcells_tup (xs:List LV):qqz (.tup xs)=none:=(rfl)
@[go_sem]theorem lcells_un:qqz (.un)=none:=(rfl)
@[go_sem]theorem asl_sl (z sz:Nat)(xs:List D)(f:Bool):D.asl z (.sl sz xs f)=if sz=z then some (xs,f)else none:=(rfl)
@[go_sem]theorem asl_nil (z:Nat):D.asl z (.imm (.slice none 0 0))=some ([],true):=(rfl)
@[go_sem]theorem cv_int (k:IntKind)(n:Int):cv (.int k n)=.d (.int k n):=(rfl)
@[go_sem]theorem cv_bool (b:Bool):cv (.bool b)=.d (.bool b):=(rfl)
@[go_sem]theorem cv_str (b:ByteArray):cv (.string b)=.d (.st b.data.toList):=(rfl)
@[go_sem]theorem cv_slice (p:Option Addr)(n m:Nat):cv (.slice p n m)=.d (.imm (.slice p n m)):=(rfl)
@[go_sem]theorem cv_ptr (p:Option Addr):cv (.pointer p)=.d (.imm (.pointer p)):=(rfl)
@[go_sem]theorem cv_nilIface:cv .nilIface=.d (.imm .nilIface):=(rfl)
@[go_sem]theorem cv_agg (cs:Array Value):cv (.agg cs)=.d (.ag (cs.toList.map cvd)):=(rfl)
@[go_sem]theorem cvd_int (k:IntKind)(n:Int):cvd (.int k n)=.int k n:=(rfl)
@[go_sem]theorem cvd_bool (b:Bool):cvd (.bool b)=.bool b:=(rfl)
@[go_sem]theorem cvd_str (b:ByteArray):cvd (.string b)=.st b.data.toList:=(rfl)
@[go_sem]theorem cvd_slice (p:Option Addr)(n m:Nat):cvd (.slice p n m)=.imm (.slice p n m):=(rfl)
@[go_sem]theorem oc_slice (p:Option Addr)(n m:Nat):(Value.slice p n m).oneCell'=true:=(rfl)
@[go_sem]theorem oc_ptr (p:Option Addr):(Value.pointer p).oneCell'=true:=(rfl)
@[go_sem]theorem oc_nilIface:Value.nilIface.oneCell'=true:=(rfl)
@[go_sem]theorem pcs_ag (xs:List LV):pcs (.ag xs)=some xs:=(rfl)
@[go_sem]theorem pcs_dag (xs:List D):pcs (.d (.ag xs))=some (xs.map .d):=(rfl)
@[go_sem]theorem pcs_dint (k:IntKind)(n:Int):pcs (.d (.int k n))=some [.d (.int k n)]:=(rfl)
@[go_sem]theorem pcs_dbool (b:Bool):pcs (.d (.bool b))=some [.d (.bool b)]:=(rfl)
@[go_sem]theorem pcs_dst (b:Bs):pcs (.d (.st b))=some [.d (.st b)]:=(rfl)
@[go_sem]theorem pcs_dsl (z:Nat)(xs:List D)(f:Bool):pcs (.d (.sl z xs f))=some [.d (.sl z xs f)]:=(rfl)
@[go_sem]theorem pcs_difc (t:TypeId)(x:D):pcs (.d (.ifc t x))=some [.d (.ifc t x)]:=(rfl)
@[go_sem]theorem pcs_dimm (v:Value):pcs (.d (.imm v))=if v.oneCell'=true then some [.d (.imm v)]else none:=(rfl)
@[go_sem]theorem pcs_bp (j o:Nat):pcs (.bp j o)=some [.bp j o]:=(rfl)
@[go_sem]theorem pcs_os (j z n:Nat):pcs (.os j z n)=some [.os j z n]:=(rfl)
@[go_sem]theorem pcs_ap (j z n i o:Nat):pcs (.ap j z n i o)=some [.ap j z n i o]:=(rfl)
@[go_sem]theorem pcs_ep (x:D)(o:Nat):pcs (.ep x o)=some [.ep x o]:=(rfl)
@[go_sem]theorem pcs_fn (f:Fn)(xs ys:List LV):pcs (.fn f xs ys)=some [.fn f xs ys]:=(rfl)
@[go_sem]theorem pcs_tup (xs:List LV):pcs (.tup xs)=none:=(rfl)
@[go_sem]theorem pcs_un:pcs (.un)=none:=(rfl)
def stP' (i:TI)(off:Nat)(cells:List LV):Option (List LV)->Option (List LV)
 |some cs=>if cs.length=i.size/\off+cs.length<=cells.length/\cs.all one then some (cells.take off++cs++cells.drop (off+cs.length))else none
 |none=>none
@[go_sem]theorem stP_eq (i:TI)(off:Nat)(x:LV)(cells:List LV):stP i off x cells=stP' i off cells (pcs x):=by unfold stP stP';cases pcs x<;>exact Eq.refl _
@[go_sem]theorem stP'_some (i:TI)(off:Nat)(cells cs:List LV):stP' i off cells (some cs)=if cs.length=i.size/\off+cs.length<=cells.length/\cs.all one then some (cells.take off++cs++cells.drop (off+cs.length))else none:=(rfl)
def mk' (xs:List LV):Option (List D)->LV
 |some ds=>.d (.ag ds)
 |none=>.ag xs
@[go_sem]theorem mk_eq (xs:List LV):mk xs=mk' xs (allD xs):=by unfold mk mk';cases allD xs<;>exact Eq.refl _
@[go_sem]theorem mk'_some (xs:List LV)(ds:List D):mk' xs (some ds)=.d (.ag ds):=(rfl)
@[go_sem]theorem mk'_none (xs:List LV):mk' xs none=.ag xs:=(rfl)
@[go_sem]theorem allD_bp (j o:Nat)(l:List LV):allD (.bp j o::l)=none:=(rfl)
@[go_sem]theorem allD_os (j z n:Nat)(l:List LV):allD (.os j z n::l)=none:=(rfl)
@[go_sem]theorem allD_ap (j z n i o:Nat)(l:List LV):allD (.ap j z n i o::l)=none:=(rfl)
@[go_sem]theorem allD_ep (x:D)(o:Nat)(l:List LV):allD (.ep x o::l)=none:=(rfl)
@[go_sem]theorem allD_ag (xs:List LV)(l:List LV):allD (.ag xs::l)=none:=(rfl)
@[go_sem]theorem allD_fn (f:Fn)(xs ys:List LV)(l:List LV):allD (.fn f xs ys::l)=none:=(rfl)
@[go_sem]theorem allD_tup (xs:List LV)(l:List LV):allD (.tup xs::l)=none:=(rfl)
@[go_sem]theorem allD_un (l:List LV):allD (.un::l)=none:=(rfl)
@[go_sem]theorem ren_d (ks:List Nat)(x:D):ren ks (.d x)=.d x:=(rfl)
@[go_sem]theorem rn_d (q:Option Nat)(x:D):rn q (.d x)=.d x:=(rfl)
@[go_sem]theorem rnr_d (r:Nat)(x:D):rnr r (.d x)=.d x:=(rfl)
@[go_sem]theorem kys_d (x:D):kys (.d x)=[]:=(rfl)
@[go_sem]theorem ren_bp (ks:List Nat)(j o:Nat):ren ks (.bp j o)=.bp (1000+ixof j ks) o:=(rfl)
@[go_sem]theorem rn_bp (q:Option Nat)(j o:Nat):rn q (.bp j o)=.un:=(rfl)
@[go_sem]theorem rnr_bp (r:Nat)(j o:Nat):rnr r (.bp j o)=.un:=(rfl)
@[go_sem]theorem kys_bp (j o:Nat):kys (.bp j o)=[j]:=(rfl)
@[go_sem]theorem ren_os (ks:List Nat)(j z n:Nat):ren ks (.os j z n)=.un:=(rfl)
@[go_sem]theorem rn_os (q:Option Nat)(j z n:Nat):rn q (.os j z n)=if j=0 then(match q with|some d=>.os d z n|none=>.un)else .un:=(rfl)
@[go_sem]theorem rnr_os (r:Nat)(j z n:Nat):rnr r (.os j z n)=if j=r then .os 0 z n else .un:=(rfl)
@[go_sem]theorem kys_os (j z n:Nat):kys (.os j z n)=[]:=(rfl)
@[go_sem]theorem ren_ap (ks:List Nat)(j z n i o:Nat):ren ks (.ap j z n i o)=.un:=(rfl)
@[go_sem]theorem rn_ap (q:Option Nat)(j z n i o:Nat):rn q (.ap j z n i o)=.un:=(rfl)
@[go_sem]theorem rnr_ap (r:Nat)(j z n i o:Nat):rnr r (.ap j z n i o)=.un:=(rfl)
@[go_sem]theorem kys_ap (j z n i o:Nat):kys (.ap j z n i o)=[]:=(rfl)
@[go_sem]theorem ren_ep (ks:List Nat)(x:D)(o:Nat):ren ks (.ep x o)=.ep x o:=(rfl)
@[go_sem]theorem rn_ep (q:Option Nat)(x:D)(o:Nat):rn q (.ep x o)=.ep x o:=(rfl)
@[go_sem]theorem rnr_ep (r:Nat)(x:D)(o:Nat):rnr r (.ep x o)=.un:=(rfl)
@[go_sem]theorem kys_ep (x:D)(o:Nat):kys (.ep x o)=[]:=(rfl)
@[go_sem]theorem ren_ag (ks:List Nat)(xs:List LV):ren ks (.ag xs)=.ag (rens ks xs):=(rfl)
@[go_sem]theorem rn_ag (q:Option Nat)(xs:List LV):rn q (.ag xs)=.ag (rns q xs):=(rfl)
@[go_sem]theorem rnr_ag (r:Nat)(xs:List LV):rnr r (.ag xs)=.ag (rnrs r xs):=(rfl)
@[go_sem]theorem kys_ag (xs:List LV):kys (.ag xs)=kyss xs:=(rfl)
@[go_sem]theorem ren_fn (ks:List Nat)(f:Fn)(xs ys:List LV):ren ks (.fn f xs ys)=.fn f (rens ks xs) (rens ks ys):=(rfl)
@[go_sem]theorem rn_fn (q:Option Nat)(f:Fn)(xs ys:List LV):rn q (.fn f xs ys)=.un:=(rfl)
@[go_sem]theorem rnr_fn (r:Nat)(f:Fn)(xs ys:List LV):rnr r (.fn f xs ys)=.un:=(rfl)
@[go_sem]theorem kys_fn (f:Fn)(xs ys:List LV):kys (.fn f xs ys)=kyss xs++kyss ys:=(rfl)
@[go_sem]theorem ren_tup (ks:List Nat)(xs:List LV):ren ks (.tup xs)=.tup (rens ks xs):=(rfl)
@[go_sem]theorem rn_tup (q:Option Nat)(xs:List LV):rn q (.tup xs)=.tup (rns q xs):=(rfl)
@[go_sem]theorem rnr_tup (r:Nat)(xs:List LV):rnr r (.tup xs)=.tup (rnrs r xs):=(rfl)
@[go_sem]theorem kys_tup (xs:List LV):kys (.tup xs)=kyss xs:=(rfl)
@[go_sem]theorem ren_un (ks:List Nat):ren ks (.un)=.un:=(rfl)
@[go_sem]theorem rn_un (q:Option Nat):rn q (.un)=.un:=(rfl)
@[go_sem]theorem rnr_un (r:Nat):rnr r (.un)=.un:=(rfl)
@[go_sem]theorem kys_un:kys (.un)=[]:=(rfl)
@[go_sem]theorem ret_some (s:S)(d:Nat)(ks:List Nat)(x:LV)(bx':Bx)(a:Nat×TypeId×List D):S.ret s (some d) ks x bx' (some a)={n:=s.n,tm:=put d (rn (some d) x) (mapf (fgt d) s.tm),bx:=mapf (Box.fgt d) (mrg ks bx' s.bx),ar:=put d a s.ar}:=(rfl)
@[go_sem]theorem ret_none (s:S)(d:Option Tmp)(ks:List Nat)(x:LV)(bx':Bx):S.ret s d ks x bx' none=S.pt {s with bx:=mrg ks bx' s.bx} d (rn none x):=(rfl)
attribute [go_sem] inr
@[go_sem]theorem ddp_nil:ddp []=[]:=(rfl)
@[go_sem]theorem ddp_cons (k:Nat)(l:List Nat):ddp (k::l)=if l.contains k then ddp l else k::ddp l:=(rfl)
@[go_sem]theorem mrg_nil (bx' bx:Bx):mrg [] bx' bx=bx:=(rfl)
@[go_sem]theorem mrg_one (k:Nat)(B:Box)(bx:Bx):mrg [k] (put 1000 B nix) bx=put k B bx:=by
  funext j
  by_cases e:j=k
  ·subst e;simp[mrg,ixof,put]
  ·simp[mrg,put,e]
@[go_sem]theorem mrg_two (k k':Nat)(B B':Box)(bx:Bx):mrg [k,k'] (put 1000 B (put 1001 B' nix)) bx=put k B (put k' B' bx):=by
  funext j
  by_cases e:j=k
  ·subst e;simp[mrg,ixof,put]
  · by_cases e':j=k'
    ·subst e';simp[mrg,ixof,put,e]
    ·simp[mrg,put,e,e']
@[go_sem]theorem mrg_st (k b:Nat)(B:Box)(f g:Bx):mrg [k] (put (b+1000000) B f) g=mrg [k] f g:=by
  funext j
  by_cases e:j=k
  · subst e
    have:(1000:Nat)≠b+1000000:=by omega
    simp[mrg,ixof,put,this]
  ·simp[mrg,e]
@[go_sem]theorem mrg_ov (k:Nat)(f h g:Bx):mrg [k] (ovS f h) g=mrg [k] h g:=by
  funext j
  by_cases e:j=k
  ·subst e;simp[mrg,ixof,ovS]
  ·simp[mrg,e]
@[go_sem]theorem put_put {α:Type}(k:Nat)(x y:α)(f:Nat->Option α):put k x (put k y f)=put k x f:=by
  funext j;simp only[put];split<;>exact Eq.refl _
@[go_sem]theorem fp_one (k:Nat)(bx:Bx):fp [k] bx 1000=bx k:=by simp[fp,nth]
def spL (l:List (Nat×SpecX)):FuncId->Option SpecX:=fun f=>lkp f l
@[go_sem]theorem spL_nil (f:FuncId):spL [] f=none:=(rfl)
@[go_sem]theorem spL_cons (f j:FuncId)(Sp:SpecX)(l:List (Nat×SpecX)):spL ((j,Sp)::l) f=if f=j then some Sp else spL l f:=(rfl)
def OKs (P:Program):List (Nat×SpecX)->Prop
 |[]=>True
 |(f,Sp)::l=>OKX P f Sp/\OKs P l
theorem OKs.ok {P:Program}:∀{l:List (Nat×SpecX)},OKs P l->∀f Sp,spL l f=some Sp->OKX P f Sp
 |[],_,_,_,h=>by cases h
 |(j,Sq)::l,hl,f,Sp,h=>by
   rw[spL_cons]at h;split at h
   ·rename_i e;subst e;simp only[Option.some.injEq]at h;subst h;exact hl.1
   ·exact OKs.ok hl.2 f Sp h
@[go_sem]theorem lay_nil (i:Nat):lay i []=nix:=(rfl)
@[go_sem]theorem lay_cons (i:Nat)(x:LV)(xs:List LV):lay i (x::xs)=put i x (lay (i+1) xs):=(rfl)
@[go_sem]theorem puts_nil:puts []=nix:=(rfl)
@[go_sem]theorem puts_cons (k:Nat)(b:Box)(l:List (Nat×Box)):puts ((k,b)::l)=put k b (puts l):=(rfl)
attribute [go_sem] id_eq List.take_length lE List.getElem?_toArray lB lH List.getElem?_cons_zero List.getElem?_cons_succ List.getElem?_nil List.map_cons List.map_nil List.all_cons List.all_nil List.take_succ_cons List.take_zero List.take_nil
 List.drop_succ_cons List.drop_zero List.drop_nil List.set_cons_zero List.set_cons_succ List.nil_append List.cons_append List.append_nil List.contains_cons List.contains_nil
 Option.map_some Option.map_none Option.bind_some Option.bind_none Option.some.injEq Option.isSome_some Option.isSome_none
 and_true true_and and_self false_and and_false forall_const if_true if_false Bool.not_true Bool.not_false Bool.true_and Bool.and_true Bool.and_self Bool.or_false Bool.false_or Bool.or_true Bool.true_or Bool.and_false Bool.false_and
 eq_self ite_true ite_false beq_self_eq_true Bool.true_eq_false Bool.false_eq_true imp_self false_imp_iff true_imp_iff not_true_eq_false not_false_eq_true ne_eq Int.toNat_zero Int.toNat_one
 exists_eq_left exists_eq_left' exists_prop forall_eq' forall_eq Prod.mk.injEq List.toList_toArray
end Lx
