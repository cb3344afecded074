import Derived.Test.YtkknljojdgpdaaaGreatDoorB40
import Derived.Test.YtkknljojdgpdaaaGreatDoorCards
import Derived.Test.YtkknljojdgpdaaaGreatDoorTie
import Derived.WalkKit
import Derived.SizedLaws
import Derived.ProofKit
import Derived.OpenShut
import Derived.Deep.DeepHandedRow
import Derived.Deep.DeepWitnessRowRef
import Derived.Lib.LaidIn
import Derived.Stop.LaidErr
import Derived.Lib.LaidTab
set_option maxHeartbeats 32000000
set_option linter.unusedVariables false
namespace Go.Proofs.YtkknljojdgpdaaaGreatDoor.enterRights
open Go Go.ChangeShapes Go.WideShapes Go.ChangeAt Go.RowKit Go.Lib
open Go.ChangeMaps (open_string shut_string)
open Go.Proofs.Tryz
theorem own:ownKnob Tryz.prog.godebug=none:=by kernel_rfl
theorem yzA: "*" ++ "errors.errorString" = "*errors.errorString" :=by decide
theorem row289 (u:TypeId)(h:Tryz.prog.typeName? 3 u=some "*errors.errorString"):u=289:=
 typeName_ptr_named (nm:= "errors.errorString") (by rw[yzA];kernel_rfl) (by kernel_rfl) (by decide) u (by rw[yzA];exact h)
noncomputable def qx6 (os:Os):World:=
 let N:=(World.settled Tryz.prog os).heap.size
 let w0:=World.holding Tryz.prog os ⟨#[
  .cells #[.string ⟨#[105,110,118,97,108,105,100,32,115,121,110,116,97,120]⟩] 291,.cells #[.string ⟨#[118,97,108,117,101,32,111,117,116,32,111,102,32,114,97,110,103,101]⟩] 291],#[],[]⟩
 let put (h:Array Obj) (g:Nat) (cs:Array Value):Array Obj:=h.modify g fun
  |.cells _ t frozen=>.cells cs t frozen
  |o=>o
 let h0:=put (put w0.heap 0 #[.iface 289 (.pointer (some ⟨N,0,none⟩))]) 1 #[.iface 289 (.pointer (some ⟨N+1,0,none⟩))]
 let h1:=put h0 3 (((List.range 20).map fun i=>Value.int .u64 ((10^i:Nat):Int)).toArray)
 let h2:=put h1 4 (([0,1,28,2,29,14,24,3,30,22,20,15,25,17,4,8,31,27,13,23,21,19,16,7,26,12,18,6,11,5,10,9].map fun z=>Value.int .u8 z).toArray)
 let h3:=put h2 5 (([0,1,56,2,57,49,28,3,61,58,42,50,38,29,17,4,62,47,59,36,45,43,51,22,53,39,33,30,24,18,12,5,63,55,48,27,60,41,37,16,46,35,44,21,52,32,23,11,54,26,40,15,34,20,31,10,25,14,19,9,13,8,7,6].map fun z=>Value.int .u8 z).toArray)
 {w0 with heap:=h3}
theorem zqf (os:Os)(args:Array Value):laidMet Tryz.prog Rows.enterRightsRow.laid ((qx6 os).forCall (fun _ _=>0) ⟨#[],args,[]⟩).memory:=
 laidMet_of_run' 8 (by kernel_rfl) (by kernel_rfl)
theorem qkG {W:World}{v:Value}(h:W.var? Tryz.prog "strconv.ErrRange" =some #[v]):W.cell? ⟨1,0,none⟩=some v:=by
 unfold World.var? at h;rw[show Tryz.prog.globalNamed "strconv.ErrRange" =some 1 by kernel_rfl]at h;simp only[Option.bind_some]at h;unfold World.cell?;split at h;{rename_i e;rw[e];cases h;rfl};{cases h}
def g0 (v:Value):Lx.Gh:=⟨fun _=>0,fun b o=>if b=1/\o=0 then some v else none,fun _=>(0,0),fun _=>none⟩
theorem wd0 {W:World}{t:TypeId}{a:Addr}(h:W.cell? ⟨1,0,none⟩=some (.iface t (.pointer (some a)))):Lx.Wd (g0 (.iface t (.pointer (some a)))) Lx.nix Lx.nix W where
 box:=fun k b e=>by cases e
 arr:=fun r sz ty xs e=>by cases e
 len:=fun r=>rfl
 fx:=by
  refine⟨fun b o v e=>?_,⟨(t,.pointer (some a)),rfl⟩⟩;simp only[g0]at e;split at e;{rename_i hb;obtain⟨rfl,rfl⟩:=hb;cases e;exact⟨h,rfl⟩};{cases e}
 inj:=fun k k' b b' e=>by cases e
 inja:=fun r r' a a' e=>by cases e
 injb:=fun k r b a e=>by cases e
 outb:=fun k b o e=>by cases e
 outa:=fun r a o e _=>by cases e
theorem zq5 {g:Lx.Gh}{W w':World}(h:Lx.Fr (Lx.qq0 g Lx.nix) W w'):Below W.heap.size W w':=
 ⟨h.os,h.tape,h.output,h.size,fun k hk=>h.block k hk (fun⟨_,_,e,_⟩=>by cases e)⟩
theorem walk (s0:ByteArray)(W:World){t:TypeId}{a:Addr}(h:W.cell? ⟨1,0,none⟩=some (.iface t (.pointer (some a))))(hb0:s0.data.toList.length<=140737488351232):
  Calls Tryz.prog 7 #[.string s0] W fun e w'=>e=.returned (.bool true)/\Below W.heap.size W w':=by
 have hv:Lx.LRps (g0 (.iface t (.pointer (some a)))) [.d (.st s0.data.toList)] [.string s0]:=.cons (.d (.st _)) (.nil);refine(Lx.lawRights_OK.calls [.d (.st s0.data.toList)] Lx.nix (fun x _ _=>x=.d (.bool true)) (fun _ _=>False) (by exact Lx.lawRights_OK_of hb0 rfl) _ _ W hv (wd0 h)).mono fun e w' he=>?_;obtain⟨g',he|he⟩:=he;{obtain⟨x,v,bx',a1,rfl,rfl,hx,hA⟩:=he;rcases hx with⟨⟨⟩⟩;exact⟨rfl,zq5 hA.fr⟩};{obtain⟨_,_,_,_,hf,_⟩:=he;exact hf.elim}
set_option maxRecDepth 100000 in
theorem lifted (os:Os)(started:os.Started)(H:Type)(enc:TypeId×Value->H)(F:Stop.Interp):
  ReturnsInHanded {} Tryz.checked os 7 .any ((OpenSpec.ofChange Rows.enterRightsSpec).preRow enc Tryz.prog Tryz.f7 Rows.enterRightsRow.domain false Rows.enterRightsRow.laid) (((OpenSpec.ofChange Rows.enterRightsSpec).at F).post enc Tryz.prog Tryz.f7 false true false false):=by
 have hw:(DataW.whole enc Tryz.prog ((qx6 os).forCall (fun _ _=>0) ⟨#[],#[Value.string ⟨#[]⟩],[]⟩).memory Tryz.f7.params.toList Rows.enterRightsSpec.vars false #[Value.string ⟨#[]⟩].toList 8).map (fun x=>(x.1,x.2.1))= some ([.lit (.string [])],[]):=by{kernel_rfl};obtain⟨⟨x1,x2,x3⟩,hx,hx1⟩:=Option.map_eq_some_iff.1 hw;simp only[Prod.mk.injEq]at hx1;obtain⟨rfl,rfl⟩:=hx1;refine returnsInHanded_of_row (C:=Tryz.checked) (s:=OpenSpec.ofChange Rows.enterRightsSpec) own started (by kernel_rfl) Tryz.func7 (witness_row_atRef (enc:=enc) (C:=Tryz.checked) false (qx6 os) #[Value.string ⟨#[]⟩] rfl (by kernel_rfl) (by kernel_rfl) (by kernel_rfl) (OpenSpec.preRow_of_cond 8 hx (by kernel_rfl) (fun k hk=>by cases hk) (by kernel_rfl) (zqf os _))) ?_;intro W base args ds gs before hval0 hW _ _ hsz hL _ _;have hval:∀(j:Nat) t v,Tryz.f7.params[j]?=some t->args[j]?=some v->Value.okWide Tryz.prog W .any base t v:=hval0;have hW':=hW;obtain⟨p,q,hA0,hV0,rfl,_,_⟩:=hW;have hA:DataW.TrodAll enc Tryz.prog W 0 (fun _=>true) true Tryz.f7.params.toList args.toList ds p:=hA0;rw[Tryz.params7]at hA hval;obtain⟨v0,d0,rfl,rfl,h0⟩:=trodAll_one hA;obtain⟨rfl,rfl⟩:=trodVars_none hV0;obtain⟨s0,rfl,rfl,rfl,ws0⟩:=open_string Tryz.underlying9 (hval 0 9 v0 rfl rfl) h0;have hb0:s0.data.toList.length<=140737488351232:=sized_string (ts:=[9]) hsz (j:=0) rfl rfl;clear hA0 hV0 hval0;have hL':laidMet Tryz.prog Rows.enterRightsRow.laid W:=hL;obtain⟨a1,t1,hv1,_,_,_⟩:=laid_sentinel (g:=1) hL'.tail.tail.tail (by kernel_rfl) (by kernel_rfl) Tryz.underlying236 row289 Tryz.underlying289 Tryz.underlying291 rfl rfl Tryz.underlying9 (by kernel_rfl) (by kernel_rfl);have hc:W.cell? ⟨1,0,none⟩=some (.iface 289 (.pointer (some a1))):=qkG hv1;refine(walk s0 W hc hb0).mono ?_;rintro e W' ⟨rfl,bel⟩;refine⟨_,rfl,_,_,_,[],[],[],hW',?_,?_,?_,bel.frame _,fun h=>by cases h⟩;exact trodAll_mk1 (shut_bool Tryz.underlying4 _);exact trodAll_mk1 (shut_string Tryz.underlying9 ws0);rfl
theorem said:Rows.EnterRightsSaid:=
 OpenClaim.holds_of_cond 7 Tryz.f7 rfl rfl rfl rfl rfl rfl rfl ⟨rfl,rfl,rfl,rfl,rfl⟩ rfl rfl rfl rfl rfl (by kernel_rfl) Tryz.func7 (by kernel_rfl)
  (lF (by kernel_rfl)) (by unfold Func.isWrapper;first|(rw[if_pos (by decide+kernel)];kernel_rfl)|(rw[if_neg (by decide+kernel)];exact⟨rfl,rfl⟩))
  (fun os started H enc _ F=>by rw[OpenClaim.pre_eq_preRow];exact lifted os started H enc F)
theorem plain (f:FuncId)(fn:Func)(hf:Tryz.pinned.checked.prog.funcNamed "lychgate/lychgatelaw14.EnterRights" =some f)(hfn:Tryz.pinned.checked.prog.funcs[f]?=some fn):
  true=Tryz.pinned.checked.prog.looks []/\∀(j:Nat) t,fn.params[j]?=some t->Tryz.pinned.checked.prog.wantsStandIn t=false:=by
 obtain rfl:f=7:=Option.some.inj ((show Tryz.prog.funcNamed "lychgate/lychgatelaw14.EnterRights" =some 7 by kernel_rfl).symm.trans hf)|>.symm;obtain rfl:fn=Tryz.f7:=(Option.some.inj (Tryz.func7.symm.trans hfn)).symm;refine⟨by kernel_rfl,fun j t ht=>?_⟩;rw[Tryz.params7]at ht;obtain rfl:t=9:=by{simpa using Array.mem_of_getElem? ht};exact(show Tryz.prog.wantsStandIn 9=false by kernel_rfl)
theorem card:Rows.EnterRightsCardSaid:=
 Claim7.holds_tied_plain_at .later [] _ _ _ _ said (fun _ h=>by cases h) (by kernel_rfl) (fun _ h=>by cases h) enterRights_row_tie rfl ⟨rfl,rfl⟩ (by kernel_rfl) rfl plain (by kernel_rfl)
end Go.Proofs.YtkknljojdgpdaaaGreatDoor.enterRights
