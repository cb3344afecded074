import Derived.Test.YtkknljojdgpdaaaGreatDoorA12
set_option maxHeartbeats 32000000
set_option linter.unusedSimpArgs false
set_option linter.unusedVariables false
set_option maxRecDepth 20000
namespace Lx
open Go
open Lg (Tok Tree)
open Go.Proofs (Tryz.prog)
open Go.Proofs.Tryz
abbrev exprS:Spec:=parS qzr Lg.expr []
abbrev argsS:Spec:=parS (fun xs=>.sl 5 (qze xs) false) Lg.args []
def namedS:Spec:=fun ys bx Kr Kp=>∃n,parS qzr (Lg.named n) [.d (qzr n)] ys bx Kr Kp
theorem named_OK (hexpr:OK Tryz.prog 170 exprS):OK Tryz.prog 154 namedS:=by
 refine fn_OK' qzu (E:=EV) (sp:=spL [(80,isS),(153,argsS),(43,hasS),(126,termS),(45,zzs),(170,exprS)]) qzt qzl (OKs.ok ⟨is_OK,⟨args_OK,⟨qjl,⟨zxq,⟨qja,⟨hexpr,trivial⟩⟩⟩⟩⟩⟩) func154 rfl ntmps154 results154 call154 [1000] none ?_;rintro ys bx Kr Kp ⟨n,ts,deep,rfl,hb,hg,hK⟩
 refine⟨[(1000,pbox ts deep)],rfl,⟨by decide,hb,trivial⟩,by simp,?_⟩
 obtain⟨k0,t0,m0,p0,ks0⟩:=n;unfold Lg.named at hK;simp only[go_sem];refine⟨ts,deep,Lg.sLpar,rfl,rfl,hg,?_⟩;simp only[go_sem]
 refine⟨fun h=>?_,fun h=>?_⟩
 · rw[if_pos h]at hK;refine⟨ts,deep,rfl,rfl,hg,?_⟩;refine qzi hK (fun a c h ts' d'=>?_) (fun xs ts1 e hK hg1=>?_)
   ·simp only[go_sem];exact h ts' d'
   ·simp only[go_sem];exact⟨_,qzb (qzc (qzo (.cons (qzc (.rfl _)) .nil))),hK hg1⟩
 · rw [if_neg (qzg h)]at hK
   refine⟨ts,deep,Lg.sLbr,rfl,rfl,hg,fun h=>?_,fun h=>?_⟩
   · rw[if_pos h]at hK;simp only[go_sem];refine⟨ts.tail,deep,rfl,rfl,hg.isT h,?_⟩;refine qzi hK (fun a c h ts' d'=>?_) (fun a ts1 e hK hg1=>?_)
     ·simp only[go_sem];exact h ts' d'
     · simp only[go_sem];refine⟨Lg.sRbr,ts1,deep,rfl,rfl,hg1,?_⟩;refine qzi hK (fun a c h ts' d'=>?_) (fun x ts2 e hK hg2=>?_)
       ·simp only[go_sem];exact h ts' d'
       · simp only[go_sem];refine⟨Lg.sEq,ts2,deep,rfl,rfl,hg2,?_⟩;refine qzi hK (fun a c h ts' d'=>?_) (fun x ts3 e hK hg3=>?_)
         ·simp only[go_sem];exact h ts' d'
         · simp only[go_sem];refine qz9 (wT 0 (wT 2 (wB 1 (wE 3 4 5 (wT 6 (wA 7 wZ))) 3 (wB 1 (wD 4 5 (wT 6 (wA 7 wZ))) 4 (wD 1 5 (wT 6 (wA 7 wZ))))))) ?_;simp only[go_sem]
           repeat' apply And.intro
           all_goals
            refine⟨ts3,deep,rfl,rfl,hg3,?_⟩;refine qzi hK (fun a c h ts' d'=>?_) (fun b ts4 e hK hg4=>?_)
            ·simp only[go_sem];exact h ts' d'
            · simp only[go_sem]
              repeat' apply And.intro
              all_goals exact⟨_,qzb (qzc (qvl rfl)),hK hg4⟩
   · rw[if_neg (qzg h)]at hK;simp only[go_sem];refine⟨Lg.sEq,ts,deep,rfl,rfl,hg,?_⟩;refine qzi hK (fun a c h ts' d'=>?_) (fun x ts1 e hK hg1=>?_)
     ·simp only[go_sem];exact h ts' d'
     · simp only[go_sem];refine⟨ts1,deep,rfl,rfl,hg1,?_⟩;refine qzi hK (fun a c h ts' d'=>?_) (fun x ts2 e hK hg2=>?_)
       ·simp only[go_sem];exact h ts' d'
       ·simp only[go_sem];exact⟨_,qzb (qzc (qvl rfl)),hK hg2⟩
def parAt {α:Type}(deep:Int)(res:α->LV)(f:List Tok->Lg.PR α)(args:List LV):Spec:=fun ys bx Kr Kp=>
 ∃ts,ys=.bp 1000 0::args/\bx 1000=some (pbox ts deep)/\Good ts/\
  post (f ts) (fun x ts'=>Good ts'->Kr (res x) (put 1000 (pbox ts' deep) nix) none) (fun a c=>∀ts' d',Kp (.ifc 145 (.ag [.int .i64 a,.int .i64 c])) (put 1000 (pbox ts' d') nix))
def parOAt {α:Type}(deep:Int)(res:α->LV)(arr:α->List Tree)(f:List Tok->Lg.PR α)(args:List LV):Spec:=fun ys bx Kr Kp=>
 ∃ts,ys=.bp 1000 0::args/\bx 1000=some (pbox ts deep)/\Good ts/\
  post (f ts) (fun x ts'=>Good ts'->Kr (res x) (put 1000 (pbox ts' deep) nix) (some (5,92,qze (arr x)))) (fun a c=>∀ts' d',Kp (.ifc 145 (.ag [.int .i64 a,.int .i64 c])) (put 1000 (pbox ts' d') nix))
abbrev factFS:Spec:=parS treeF Lg.fact []
abbrev qw0 (deep:Int)(block:List Tok->Lg.PR Tree):Spec:=parAt deep (fun x=>.d (qzr x)) block []
def treeO (n:Tree):LV:=.ag [.d (.int .i64 n.kind),.d (.st n.text),.d (.int .i64 n.num),.d (.int .i64 n.pos),.os 0 5 n.kids.length]
def branchS (deep:Int)(block:List Tok->Lg.PR Tree):Spec:=fun ys bx Kr Kp=>∃k at_,parOAt deep treeO Tree.kids (Lg.zkx block k at_) [.d (.int .i64 k),.d (.int .i64 at_)] ys bx Kr Kp
theorem branch_OK (deep:Int)(block:List Tok->Lg.PR Tree)(hblock:OK Tryz.prog 86 (qw0 deep block)):OK Tryz.prog 152 (branchS deep block):=by
 refine fn_OK' qzu (E:=EV) (sp:=spL [(89,factFS),(86,(qw0 deep block))]) qzt qzl (OKs.ok ⟨factF_OK,⟨hblock,trivial⟩⟩) func152 rfl ntmps152 results152 call152 [1000] (some 19) ?_;rintro ys bx Kr Kp ⟨k,at_,ts,rfl,hb,hg,hK⟩
 refine⟨[(1000,pbox ts deep)],rfl,⟨by decide,hb,trivial⟩,by simp,?_⟩
 unfold Lg.zkx at hK;simp only[go_sem];refine⟨ts,deep,rfl,rfl,hg,?_⟩;refine qzi hK (fun a c h ts' d'=>?_) (fun n ts1 e hK hg1=>?_)
 ·simp only[go_sem];exact h ts' d'
 · have hl:=Lg.zjg e;obtain⟨k0,t0,m0,p0,ks0⟩:=n;replace hl:ks0.length=2:=hl;simp only[treeF,hl,go_sem];refine qz9 (wT 0 (wT 2 (wB 1 (wE 3 4 5 (wT 6 (wA 7 wZ))) 3 (wB 1 (wD 4 5 (wT 6 (wA 7 wZ))) 4 (wD 1 5 (wT 6 (wA 7 wZ))))))) ?_;simp only[hl,go_sem]
   repeat' apply And.intro
   all_goals
    refine⟨ts1,rfl,rfl,hg1,?_⟩;refine qzi hK (fun a c h ts' d'=>?_) (fun b ts2 e hK hg2=>?_)
    ·simp only[hl,go_sem];exact h ts' d'
    · simp only[hl,go_sem]
      have e2:qze ks0++[qzr b]=qze (ks0++[b]):=by simp[qzp,qze]
      repeat' apply And.intro
      all_goals
       rw[e2,qzn];exact hK hg2
def fromS:Spec:=fun ys bx Kr _=>∃x1 x2 x3 x4 x5 p,ys=[.d (.ag [x1,x2,x3,x4,x5]),.bp 1000 0]/\bx 1000=some ⟨[.d (.int .i64 p)],3⟩/\[x1,x2,x3,x4,x5].all (fun y=>one (.d y))=true/\
 Kr (.d (.ag [x1,x2,x3,.int .i64 p,x5])) (put 1000 ⟨[.d (.int .i64 p)],3⟩ nix) none
theorem from_OK:OK Tryz.prog 149 fromS:=by
 refine fn_OK' qzu (E:=EV) (sp:=spL []) qzt qzl (OKs.ok trivial) func149 rfl ntmps149 results149 call149 [1000] none ?_;rintro ys bx Kr Kp ⟨x1,x2,x3,x4,x5,p,rfl,hb,hall,hK⟩
 refine⟨[(1000,⟨[.d (.int .i64 p)],3⟩)],rfl,⟨by decide,hb,trivial⟩,by simp,?_⟩
 simp only[List.all_cons,List.all_nil,Bool.and_true,Bool.and_eq_true]at hall;obtain⟨a1,a2,a3,a4,a5⟩:=hall;simp only[a1,a2,a3,a4,a5,go_sem];exact⟨_,qzb (.rfl _),hK⟩
theorem D.les.app {xs ys us vs:List D}(h:D.les xs ys)(k:D.les us vs):D.les (xs++us) (ys++vs):=by
 induction xs generalizing ys with
 |nil=>cases h;exact k
 |cons x xs ih=>cases h with|cons a t=>exact .cons a (ih t)
abbrev stmtS (deep:Int)(block:List Tok->Lg.PR Tree):Spec:=parAt deep (fun x=>.d (qzr x)) (Lg.stmt block) []
theorem stmt_OK (hexpr:OK Tryz.prog 170 exprS)(deep:Int)(block:List Tok->Lg.PR Tree)(hblock:OK Tryz.prog 86 (qw0 deep block)):OK Tryz.prog 125 (stmtS deep block):=by
 refine fn_OK' qzu (E:=EV) (sp:=spL [(42,zqg),(43,hasS),(81,nameS),(149,fromS),(150,endedS),(151,atS),(152,(branchS deep block)),(86,(qw0 deep block)),(80,isS),(126,termS),(153,argsS),(154,namedS)]) qzt qzl (OKs.ok ⟨qjo,⟨qjl,⟨qk8,⟨from_OK,⟨ended_OK,⟨at_OK,⟨(branch_OK deep block hblock),⟨hblock,⟨is_OK,⟨zxq,⟨args_OK,⟨(named_OK hexpr),trivial⟩⟩⟩⟩⟩⟩⟩⟩⟩⟩⟩⟩) func125 rfl ntmps125 results125 call125 [1000] none ?_;rintro ys bx Kr Kp ⟨ts,rfl,hb,hg,hK⟩
 refine⟨[(1000,pbox ts deep)],rfl,⟨by decide,hb,trivial⟩,by simp,?_⟩
 unfold Lg.stmt at hK;simp only[go_sem];refine⟨ts,deep,rfl,rfl,hg,?_⟩;simp only[go_sem]
 refine⟨ts,deep,Lg.sFree,rfl,rfl,hg,fun h=>?_,fun h=>?_⟩
 · rw[if_pos h]at hK;simp only[go_sem];refine⟨ts.tail,deep,rfl,rfl,hg.isT h,?_⟩;refine qzi hK (fun a c h ts' d'=>?_) (fun n ts1 e hK hg1=>?_)
   ·simp only[go_sem];exact h ts' d'
   · obtain⟨k0,t0,m0,p0,ks0⟩:=n;simp only[go_sem];refine⟨_,_,_,_,_,_,rfl,rfl,rfl,?_⟩;simp only[go_sem];refine⟨_,.node 12 t0 m0 (Lg.hd ts).pos ks0,qzc (.rfl _),rfl,rfl,ts1,deep,rfl,rfl,hg1,?_⟩;refine qq5 hK (fun a c h ts' d'=>?_) (fun n ts2 e hK hg2=>?_)
     ·simp only[go_sem];exact h ts' d'
     ·simp only[go_sem];exact⟨_,qzb (qzk n),hK hg2⟩
 rw[if_neg (qzg h)]at hK;simp only[go_sem]
 refine⟨ts,deep,Lg.sLock,rfl,rfl,hg,fun h=>?_,fun h=>?_⟩
 · rw[if_pos h]at hK;simp only[go_sem];refine⟨13,ts.tail,deep,rfl,rfl,hg.isT h,?_⟩;refine qzi hK (fun a c h ts' d'=>?_) (fun n ts1 e hK hg1=>?_)
   ·simp only[go_sem];exact h ts' d'
   · obtain⟨k0,t0,m0,p0,ks0⟩:=n;simp only[qzr,go_sem];refine⟨_,_,_,_,_,_,rfl,rfl,rfl,?_⟩;simp only[go_sem];refine⟨_,.node k0 t0 m0 (Lg.hd ts).pos ks0,qzc (.rfl _),rfl,rfl,ts1,deep,rfl,rfl,hg1,?_⟩;refine qq5 hK (fun a c h ts' d'=>?_) (fun n ts2 e hK hg2=>?_)
     ·simp only[go_sem];exact h ts' d'
     ·simp only[go_sem];exact⟨_,qzb (qzk n),hK hg2⟩
 rw[if_neg (qzg h)]at hK;simp only[go_sem]
 refine⟨ts,deep,Lg.sUnlock,rfl,rfl,hg,fun h=>?_,fun h=>?_⟩
 · rw[if_pos h]at hK;simp only[go_sem];refine⟨14,ts.tail,deep,rfl,rfl,hg.isT h,?_⟩;refine qzi hK (fun a c h ts' d'=>?_) (fun n ts1 e hK hg1=>?_)
   ·simp only[go_sem];exact h ts' d'
   · obtain⟨k0,t0,m0,p0,ks0⟩:=n;simp only[qzr,go_sem];refine⟨_,_,_,_,_,_,rfl,rfl,rfl,?_⟩;simp only[go_sem];refine⟨_,.node k0 t0 m0 (Lg.hd ts).pos ks0,qzc (.rfl _),rfl,rfl,ts1,deep,rfl,rfl,hg1,?_⟩;refine qq5 hK (fun a c h ts' d'=>?_) (fun n ts2 e hK hg2=>?_)
     ·simp only[go_sem];exact h ts' d'
     ·simp only[go_sem];exact⟨_,qzb (qzk n),hK hg2⟩
 rw[if_neg (qzg h)]at hK;simp only[go_sem]
 refine⟨ts,deep,Lg.sIf,rfl,rfl,hg,fun h=>?_,fun h=>?_⟩
 · rw[if_pos h]at hK;simp only[go_sem];refine⟨15,(Lg.hd ts).pos,ts.tail,rfl,rfl,hg.isT h,?_⟩;refine qzi hK (fun a c h ts' d'=>?_) (fun n ts1 e hK hg1=>?_)
   ·simp only[go_sem];exact h ts' d'
   · have hl:=Lg.branch_kids e;obtain⟨k0,t0,m0,p0,ks0⟩:=n;replace hl:ks0.length=3:=hl;simp only[treeO,Tree.kids,hl,go_sem]
     refine⟨ts1,deep,Lg.sElse,rfl,rfl,hg1,fun h=>?_,fun h=>?_⟩
     · rw[if_pos h]at hK;simp only[hl,go_sem];refine qz9 (wT 0 (wT 2 (wB 1 (wE 3 4 5 (wT 6 (wA 7 wZ))) 3 (wB 1 (wD 4 5 (wT 6 (wA 7 wZ))) 4 (wD 1 5 (wT 6 (wA 7 wZ))))))) ?_;simp only[hl,go_sem]
       repeat' apply And.intro
       all_goals
        refine⟨ts1.tail,rfl,rfl,hg1.isT h,?_⟩;refine qzi hK (fun a c h ts' d'=>?_) (fun b ts2 e hK hg2=>?_)
        ·simp only[hl,go_sem];exact h ts' d'
        · simp only[hl,go_sem]
          repeat' apply And.intro
          all_goals first
           |exact⟨_,qzb (qzc (qvl (by simp[qze,qzp,Lg.Tree.kids]))),hK hg2⟩
           |simp only[lC,qzn,hl,lB,lH]
     · rw[if_neg (qzg h)]at hK;simp only[hl,go_sem]
       exact⟨by simp only[lC,qzn,hl,lB,lH],_,qzb (qzc (qzo (ts:=ks0++[Lg.Tree.node 9 [] 0 (Lg.hd ts).pos []]) (by rw[qzp];exact D.les.app (D.les.refl _) (.cons (qzc qqp) .nil)))),hK hg1⟩
 rw[if_neg (qzg h)]at hK;simp only[go_sem]
 refine⟨ts,deep,Lg.sWhile,rfl,rfl,hg,fun h=>?_,fun h=>?_⟩
 · rw[if_pos h]at hK;simp only[go_sem];refine⟨16,(Lg.hd ts).pos,ts.tail,rfl,rfl,hg.isT h,?_⟩;refine qq5 hK (fun a c h ts' d'=>?_) (fun n ts1 e hK hg1=>?_)
   ·simp only[go_sem];exact h ts' d'
   ·have hl:=Lg.branch_kids e;obtain⟨k0,t0,m0,p0,ks0⟩:=n;replace hl:ks0.length=3:=hl;simp only[treeO,Tree.kids,hl,go_sem];exact⟨_,qzb (qzc (qvl rfl)),hK hg1⟩
 rw[if_neg (qzg h)]at hK;simp only[go_sem]
 refine⟨ts,deep,Lg.sReturn,rfl,rfl,hg,fun h=>?_,fun h=>?_⟩
 · rw[if_pos h]at hK;simp only[go_sem];refine⟨ts.tail,deep,Lg.sSemi,rfl,rfl,hg.isT h,?_⟩;simp only[go_sem]
   refine⟨fun h2=>?_,fun h2=>?_⟩
   · rw[if_pos h2]at hK;refine⟨_,.node 17 [] 0 (Lg.hd ts).pos [],qzc qqp,rfl,rfl,ts.tail,deep,rfl,rfl,hg.isT h,?_⟩;refine qq5 hK (fun a c h ts' d'=>?_) (fun n ts2 e hK hg2=>?_)
     ·simp only[go_sem];exact h ts' d'
     ·simp only[go_sem];exact⟨_,qzb (qzk n),hK hg2⟩
   · rw[if_neg (qzg h2)]at hK;refine⟨ts.tail,deep,rfl,rfl,hg.isT h,?_⟩;refine qzi hK (fun a c h ts' d'=>?_) (fun x ts1 e hK hg1=>?_)
     ·simp only[go_sem];exact h ts' d'
     · simp only[go_sem];refine⟨_,.node 17 [] 0 (Lg.hd ts).pos [x],qzc (qvl rfl),rfl,rfl,ts1,deep,rfl,rfl,hg1,?_⟩;refine qq5 hK (fun a c h ts' d'=>?_) (fun n ts2 e hK hg2=>?_)
       ·simp only[go_sem];exact h ts' d'
       ·simp only[go_sem];exact⟨_,qzb (qzk n),hK hg2⟩
 rw[if_neg (qzg h)]at hK;simp only[go_sem]
 refine⟨ts,deep,Lg.sAbort,rfl,rfl,hg,fun h=>?_,fun h=>?_⟩
 · rw[if_pos h]at hK;simp only[go_sem];refine⟨_,.node 18 [] 0 (Lg.hd ts).pos [],qzc qqp,rfl,rfl,ts.tail,deep,rfl,rfl,hg.isT h,?_⟩;refine qq5 hK (fun a c h ts' d'=>?_) (fun n ts2 e hK hg2=>?_)
   ·simp only[go_sem];exact h ts' d'
   ·simp only[go_sem];exact⟨_,qzb (qzk n),hK hg2⟩
 rw[if_neg (qzg h)]at hK;simp only[go_sem]
 refine⟨ts,deep,Lg.sFork,rfl,rfl,hg,fun h=>?_,fun h=>?_⟩
 · rw[if_pos h]at hK;simp only[go_sem];refine⟨ts.tail,deep,rfl,rfl,hg.isT h,?_⟩;refine qzi hK (fun a c h ts' d'=>?_) (fun n ts1 e hK hg1=>?_)
   ·simp only[go_sem];exact h ts' d'
   · rw[Lg.name_eq e]at hK⊢
     generalize n.text=t0,n.pos=p0 at hK⊢
     simp only[go_sem];refine⟨ts1,deep,rfl,rfl,hg1,?_⟩;refine qzi hK (fun a c h ts' d'=>?_) (fun xs ts2 e hK hg2=>?_)
     ·simp only[go_sem];exact h ts' d'
     · simp only[go_sem];refine⟨_,_,_,_,_,_,rfl,rfl,rfl,?_⟩;simp only[go_sem];refine⟨_,.node 19 t0 0 (Lg.hd ts).pos xs,qzc (.rfl _),rfl,rfl,ts2,deep,rfl,rfl,hg2,?_⟩;refine qq5 hK (fun a c h ts' d'=>?_) (fun n ts2 e hK hg2=>?_)
       ·simp only[go_sem];exact h ts' d'
       ·simp only[go_sem];exact⟨_,qzb (qzk n),hK hg2⟩
 rw[if_neg (qzg h)]at hK;simp only[go_sem];refine⟨ts,deep,rfl,rfl,hg,?_⟩;refine qzi hK (fun a c h ts' d'=>?_) (fun n ts1 e hK hg1=>?_)
 ·simp only[go_sem];exact h ts' d'
 · simp only[go_sem];refine⟨n,ts1,deep,rfl,rfl,hg1,?_⟩;refine qzi hK (fun a c h ts' d'=>?_) (fun n ts2 e hK hg2=>?_)
   ·simp only[go_sem];exact h ts' d'
   · obtain⟨k0,t0,m0,p0,ks0⟩:=n;simp only[qzr,go_sem];refine⟨_,.node k0 t0 m0 p0 ks0,qzc (.rfl _),rfl,rfl,ts2,deep,rfl,rfl,hg2,?_⟩;refine qq5 hK (fun a c h ts' d'=>?_) (fun n ts2 e hK hg2=>?_)
     ·simp only[go_sem];exact h ts' d'
     ·simp only[go_sem];exact⟨_,qzb (qzk n),hK hg2⟩
theorem block0_OK:OK Tryz.prog 86 (qw0 8 (Lg.block 0)):=by
 refine fn_OK' qzu (E:=EV) (sp:=spL [(42,zqg),(80,isS),(84,failS),(45,zzs)]) qzt qzl (OKs.ok ⟨qjo,⟨is_OK,⟨zzd,⟨qja,trivial⟩⟩⟩⟩) func86 rfl ntmps86 results86 call86 [1000] none ?_;rintro ys bx Kr Kp ⟨ts,rfl,hb,hg,hK⟩
 refine⟨[(1000,pbox ts 8)],rfl,⟨by decide,hb,trivial⟩,by simp,?_⟩
 rw[Lg.block]at hK;simp only[go_sem];refine⟨ts,8,rfl,rfl,hg,?_⟩;simp only[go_sem];refine⟨ts,8,Lg.sLcu,rfl,rfl,hg,?_⟩;simp only[pbox,go_sem]
 refine⟨fun h=>?_,fun h=>?_⟩
 · rw[if_pos h]at hK
   refine⟨fun _=>?_,fun h=>absurd h (by simp)⟩
   refine⟨ts,8,21,rfl,rfl,hg,?_⟩;simp only[go_sem];exact hK ts 8
 ·rw[if_neg (qzg h)]at hK;refine⟨Lg.sLcu,ts,8,rfl,rfl,hg,?_⟩;unfold Lg.must;rw[if_neg (qzg h)];intro ts' d';simp only[go_sem];exact hK ts' d'
def qjp (d:Nat)(xs:List Tree):LV:=match xs with
 |[]=>.d (.imm (.slice none 0 0))
 |x::l=>.os d 5 (x::l).length
def qj5 (d:Nat)(xs:List Tree):Ar:=match xs with
 |[]=>nix
 |x::l=>put d (5,92,qze (x::l)) nix
@[go_sem]theorem kidsLV_nil (d:Nat):qjp d []=.d (.imm (.slice none 0 0)):=(rfl)
@[go_sem]theorem kidsLV_cons (d:Nat)(x:Tree)(l:List Tree):qjp d (x::l)=.os d 5 (l.length+1):=(rfl)
@[go_sem]theorem kidsAr_nil (d:Nat):qj5 d []=nix:=(rfl)
@[go_sem]theorem kidsAr_cons (d:Nat)(x:Tree)(l:List Tree):qj5 d (x::l)=put d (5,92,qze (x::l)) nix:=(rfl)
theorem qq4 (d:Nat)(x:Tree)(l:List Tree):qjp d (l++[x])=.os d 5 (l.length+1):=by
 cases l with
 |nil=>rfl
 |cons y l=>simp[qjp]
theorem qxl {d:Nat}{x:Tree}{l:List Tree}{f:Ar}(h:f d=some (5,92,qze l++[qzr x])):subm f (qj5 d (l++[x])):=by
 have e:qj5 d (l++[x])=put d (5,92,qze l++[qzr x]) nix:=by
  cases l with
  |nil=>rfl
  |cons y l=>simp[qj5,qze,qzp]
 rw[e];exact qzd h qza
theorem block_succ (hexpr:OK Tryz.prog 170 exprS)(n:Nat)(deep:Int)(h0:0<=deep)(h8:deep<8)(hblock:OK Tryz.prog 86 (qw0 (deep+1) (Lg.block n))):OK Tryz.prog 86 (qw0 deep (Lg.block (n+1))):=by
 refine fn_OK' qzu (E:=EV) (sp:=spL [(42,zqg),(80,isS),(84,failS),(45,zzs),(43,hasS),(125,(stmtS (deep+1) (Lg.block n)))]) qzt qzl (OKs.ok ⟨qjo,⟨is_OK,⟨zzd,⟨qja,⟨qjl,⟨(stmt_OK hexpr (deep+1) (Lg.block n) hblock),trivial⟩⟩⟩⟩⟩⟩) func86 rfl ntmps86 results86 call86 [1000] none ?_;rintro ys bx Kr Kp ⟨ts,rfl,hb,hg,hK⟩
 refine⟨[(1000,pbox ts deep)],rfl,⟨by decide,hb,trivial⟩,by simp,?_⟩
 rw[Lg.block]at hK
 have hd8:decide (8<=deep)=false:=by rw[decide_eq_false_iff_not];omega
 simp only[go_sem];refine⟨ts,deep,rfl,rfl,hg,?_⟩;simp only[go_sem];refine⟨ts,deep,Lg.sLcu,rfl,rfl,hg,?_⟩;simp only[pbox,hd8,go_sem]
 refine⟨fun h=>?_,fun h=>?_⟩
 · refine ⟨Lg.sLcu,ts,deep,rfl,rfl,hg,?_⟩;refine qzi hK (fun a c h ts' d'=>?_) (fun x ts1 e hK hg1=>?_)
   ·simp only[go_sem];exact h ts' d'
   · have hl1:=Lg.qqn _ _ _ _ e;have hl0:=hg.2
     generalize(Lg.hd ts).pos=p at hK⊢
     simp only[pbox,go_sem]
     refine⟨⟨by omega,by omega⟩,?_⟩
     refine qzj (T:={t:List Tree×List Tok //Good t.2/\t.1.length+t.2.length<=2097152/\post (Lg.stmts (Lg.stmt (Lg.block n)) t.2) (fun xs ts'=>Good ts'->Kr (.d (qzr (.node 9 [] 0 p (t.1++xs)))) (put 1000 (pbox ts' deep) nix) none) (fun a c=>∀ts' d',Kp (.ifc 145 (.ag [.int .i64 a,.int .i64 c])) (put 1000 (pbox ts' d') nix))})
      (fun t=>⟨46,put 0 (.bp 1000 0) (put 2 (.bp 2 0) (put 3 (.bp 3 0) nix)),put 1000 (pbox t.1.2 (deep+1)) (put 2 ⟨[.d (.int .i64 0),.d (.st []),.d (.int .i64 0),.d (.int .i64 0),.d (.imm (.slice none 0 0))],92⟩ (put 3 ⟨[.d (.int .i64 9),.d (.st []),.d (.int .i64 0),.d (.int .i64 p),qjp 36 t.1.1],92⟩ nix)),qj5 36 t.1.1⟩) (fun t=>t.1.2.length)
      ⟨([],ts1),hg1,by simp only[lH];omega,qzi hK (fun a c h=>h) (fun xs ts' e h=>h)⟩
      ⟨rfl,sP3 qza,sP3 qza,qza⟩ ?_
     rintro⟨⟨acc,ts2⟩,hg2,hb2,hK⟩;replace hg2:Good ts2:=hg2;have hlen:=hg2.2;replace hb2:acc.length+ts2.length<=2097152:=hb2
     replace hK:post (Lg.stmts (Lg.stmt (Lg.block n)) ts2) (fun xs ts'=>Good ts'->Kr (.d (qzr (.node 9 [] 0 p (acc++xs)))) (put 1000 (pbox ts' deep) nix) none) (fun a c=>∀ts' d',Kp (.ifc 145 (.ag [.int .i64 a,.int .i64 c])) (put 1000 (pbox ts' d') nix)):=hK
     cases acc with
     |nil=>
      simp only[go_sem];rw[Lg.stmts]at hK
      refine⟨ts2,deep+1,Lg.sRcu,rfl,rfl,hg2,fun h=>?_,fun h=>?_⟩
      · rw[if_pos h]at hK;simp only[pbox,go_sem]
        refine⟨⟨by omega,by omega⟩,_,qzb (qzc qqp),?_⟩
        rw[show deep+1-1=deep by omega]
        have h2:=hK (hg2.isT h);rw[List.append_nil]at h2;exact h2
      · rw[if_neg (qzg h)]at hK;simp only[go_sem];refine qz9 (wT 0 (wT 2 (wB 1 (wE 3 4 5 (wT 6 (wA 7 wZ))) 3 (wB 1 (wD 4 5 (wT 6 (wA 7 wZ))) 4 (wD 1 5 (wT 6 (wA 7 wZ))))))) ?_;simp only[go_sem]
        repeat' apply And.intro
        all_goals
         refine⟨ts2,rfl,rfl,hg2,?_⟩
         generalize e3:Lg.stmt (Lg.block n) ts2=r at hK⊢
         cases r with
         |error q=>obtain⟨a,c⟩:=q;intro ts' d';simp only[go_sem];exact hK ts' d'
         |ok q=>
          obtain⟨s,ts3⟩:=q;intro hg3;have hl3:=Lg.stmt_eats (Lg.block_eats n) _ _ _ e3;simp only[if_pos hl3]at hK;simp only[go_sem]
          repeat' apply And.intro
          all_goals first
           |omega
           | (refine⟨⟨([]++[s],ts3),hg3,by simp only[lC,lB,lH]at hb2⊢;omega,qzi hK (fun _ _ h=>h) (fun xs ts' e h hg'=>?_)⟩,
               ⟨rfl,sP3 qza,sP2 (qzd ?_ qza),qxl rfl⟩,hl3⟩
              ·have h2:=h hg';simpa using h2
              ·show _=some (Box.mk [_,_,_,_,qjp 36 ([]++[s])] _);rw[qq4];rfl)
     |cons y acc=>
      simp only[lB]at hb2;simp only[go_sem];rw[Lg.stmts]at hK
      refine⟨ts2,deep+1,Lg.sRcu,rfl,rfl,hg2,fun h=>?_,fun h=>?_⟩
      · rw[if_pos h]at hK;simp only[pbox,go_sem]
        refine⟨⟨by omega,by omega⟩,_,qzb (qzc (.rfl _)),?_⟩
        rw[show deep+1-1=deep by omega]
        have h2:=hK (hg2.isT h);rw[List.append_nil]at h2;exact h2
      · rw[if_neg (qzg h)]at hK;simp only[go_sem];refine qz9 (wT 0 (wT 2 (wB 1 (wE 3 4 5 (wT 6 (wA 7 wZ))) 3 (wB 1 (wD 4 5 (wT 6 (wA 7 wZ))) 4 (wD 1 5 (wT 6 (wA 7 wZ))))))) ?_;simp only[go_sem]
        repeat' apply And.intro
        all_goals
         refine⟨ts2,rfl,rfl,hg2,?_⟩
         generalize e3:Lg.stmt (Lg.block n) ts2=r at hK⊢
         cases r with
         |error q=>obtain⟨a,c⟩:=q;intro ts' d';simp only[go_sem];exact hK ts' d'
         |ok q=>
          obtain⟨s,ts3⟩:=q;intro hg3;have hl3:=Lg.stmt_eats (Lg.block_eats n) _ _ _ e3;simp only[if_pos hl3]at hK;simp only[go_sem]
          repeat' apply And.intro
          all_goals first
           |omega
           | (refine⟨⟨((y::acc)++[s],ts3),hg3,by simp only[lC,lB,lH]at hb2⊢;omega,qzi hK (fun _ _ h=>h) (fun xs ts' e h hg'=>?_)⟩,
               ⟨rfl,sP3 qza,sP2 (qzd ?_ qza),qxl (x:=s) (l:=y::acc) rfl⟩,hl3⟩
              ·have h2:=h hg';simpa using h2
              ·show _=some (Box.mk [_,_,_,_,qjp 36 ((y::acc)++[s])] _);rw[qq4];rfl)
 ·refine⟨Lg.sLcu,ts,deep,rfl,rfl,hg,?_⟩;unfold Lg.must Lg.bnd at hK;unfold Lg.must;rw[if_neg (qzg h)]at hK⊢;intro ts' d';simp only[go_sem];exact hK ts' d'
theorem block_OK (hexpr:OK Tryz.prog 170 exprS):∀n:Nat,n<=8->OK Tryz.prog 86 (qw0 (8-n) (Lg.block n))
 |0,_=>block0_OK
 |n+1,h=>block_succ hexpr n (8-((n+1:Nat):Int)) (by omega) (by omega) (by
   have:=block_OK hexpr n (by omega)
   rwa [show(8:Int)-(n:Int)=8-((n+1:Nat):Int)+1 by omega]at this)
theorem zjo {α β γ:Type}(r:Lg.PR α)(f:α->List Tok->Lg.PR β)(g:β->List Tok->Lg.PR γ):Lg.bnd (Lg.bnd r f) g=Lg.bnd r fun x ts=>Lg.bnd (f x ts) g:=by
 cases r with
 |error e=>rfl
 |ok p=>obtain⟨x,ts⟩:=p;rfl
theorem qwg {α β:Type}(x:α)(ts:List Tok)(f:α->List Tok->Lg.PR β):Lg.bnd (.ok (x,ts)) f=f x ts:=rfl
theorem must_ok {s:List UInt8}{ts:List Tok}(h:Lg.isT s ts=true):Lg.must s ts=.ok ((),ts.tail):=by unfold Lg.must;rw[if_pos h]
abbrev fnS (at_:Int):Spec:=parAt 0 (fun x=>.d (qzr x)) (Lg.fn at_) [.d (.int .i64 at_)]
def nameD (n:Tree):D:=.ag [.int .i64 5,.st n.text,.int .i64 0,.int .i64 n.pos,.imm (.slice none 0 0)]
theorem nameN_OK:OK Tryz.prog 81 (parS nameD Lg.name []):=by
 refine fn_OK' qzu (E:=EV) (sp:=spL [(124,(parS tokD (Lg.take 1) [.d (.int .i64 1)]))]) qzt qzl (OKs.ok ⟨(take_OK 1 (by decide)),trivial⟩) func81 rfl ntmps81 results81 call81 [1000] none ?_;rintro ys bx Kr Kp ⟨ts,deep,rfl,hb,hg,hK⟩
 refine⟨[(1000,pbox ts deep)],rfl,⟨by decide,hb,trivial⟩,by simp,?_⟩
 simp only[go_sem];refine⟨ts,deep,rfl,rfl,hg,?_⟩;refine qzi hK (fun a c h ts' d'=>?_) (fun x ts' e hK hg'=>?_)
 ·simp only[go_sem];exact h ts' d'
 ·simp only[go_sem];exact⟨_,qzb (.rfl _),hK hg'⟩
theorem les_rb {ps:List Tree}{r b:Tree}{x:D}(h:D.le x (qzr r)):D.les (qze ps++[x,qzr b]) (qze (ps++[r,b])):=by
 rw[qzp];exact D.les.app (D.les.refl _) (.cons h (.cons (.rfl _) .nil))
theorem fn_OK_ (hexpr:OK Tryz.prog 170 exprS)(at_:Int):OK Tryz.prog 44 (fnS at_):=by
 have hblock:OK Tryz.prog 86 (qw0 0 (Lg.block 8)):=block_OK hexpr 8 (by omega);refine fn_OK' qzu (E:=EV) (sp:=spL [(81,(parS nameD Lg.name [])),(45,zzs),(80,isS),(82,(listO 83 Lg.param)),(43,hasS),(84,failS),(85,(parS qzr Lg.mode [])),(42,zqg),(86,(qw0 0 (Lg.block 8)))]) qzt qzl (OKs.ok ⟨nameN_OK,⟨qja,⟨is_OK,⟨listParam_OK,⟨qjl,⟨zzd,⟨mode_OK,⟨qjo,⟨hblock,trivial⟩⟩⟩⟩⟩⟩⟩⟩⟩) func44 rfl ntmps44 results44 call44 [1000] none ?_;rintro ys bx Kr Kp ⟨ts,rfl,hb,hg,hK⟩
 refine⟨[(1000,pbox ts 0)],rfl,⟨by decide,hb,trivial⟩,by simp,?_⟩
 unfold Lg.fn Lg.zxi Lg.fnRet at hK;simp only[go_sem];refine⟨ts,0,rfl,rfl,hg,?_⟩;refine qzi hK (fun a c h ts' d'=>?_) (fun n ts1 e hK hg1=>?_)
 ·simp only[go_sem];exact h ts' d'
 obtain⟨k0,t0,m0,p0,ks0⟩:=n;simp only[nameD,Tree.text,Tree.pos,go_sem];rw[zjo]at hK;refine⟨Lg.sLpar,ts1,0,rfl,rfl,hg1,?_⟩;refine qzi hK (fun a c h ts' d'=>?_) (fun x ts2 e hK hg2=>?_)
 ·simp only[go_sem];exact h ts' d'
 simp only[go_sem];refine⟨ts2,0,Lg.sRpar,rfl,rfl,hg2,?_⟩;simp only[go_sem]
 refine⟨fun h=>?_,fun h=>?_⟩
 · rw[if_pos h,qwg]at hK;have hg4:=hg2.isT h;refine⟨Lg.sRpar,ts2,0,rfl,rfl,hg2,?_⟩;rw[must_ok h];intro _
   generalize ts2.tail=ts4 at hK hg4⊢
   simp only[go_sem]
   refine⟨ts4,0,Lg.sArrow,rfl,rfl,hg4,fun h=>?_,fun h=>?_⟩
   · rw[if_pos h]at hK;simp only[go_sem];refine⟨ts4.tail,0,Lg.sAmp,rfl,rfl,hg4.isT h,?_⟩;simp only[go_sem]
     refine⟨fun h2=>?_,fun h2=>?_⟩
     ·rw[if_pos h2]at hK;refine⟨ts4.tail,0,20,rfl,rfl,hg4.isT h,?_⟩;simp only[go_sem];exact hK ts4.tail 0
     · rw[if_neg (qzg h2)]at hK;refine⟨ts4.tail,0,rfl,rfl,hg4.isT h,?_⟩;refine qzi hK (fun a c h ts' d'=>?_) (fun r ts8 e hK hg8=>?_)
       ·simp only[go_sem];exact h ts' d'
       · simp only[go_sem];refine qz9 (wT 0 (wT 3 (wC 1 (wB 2 (wE 4 5 6 (wT 7 (wA 8 wZ))) 4 (wE 2 5 6 (wT 7 (wA 8 wZ)))) 2 (wB 1 (wE 4 5 6 (wT 7 (wA 8 wZ))) 4 (wB 1 (wD 5 6 (wT 7 (wA 8 wZ))) 5 (wD 1 6 (wT 7 (wA 8 wZ))))) 4 (wB 1 (wE 2 5 6 (wT 7 (wA 8 wZ))) 2 (wB 1 (wD 5 6 (wT 7 (wA 8 wZ))) 5 (wD 1 6 (wT 7 (wA 8 wZ)))))))) ?_;simp only[go_sem]
         repeat' apply And.intro
         all_goals
          refine⟨ts8,rfl,rfl,hg8,?_⟩;refine qzi hK (fun a c h ts' d'=>?_) (fun b ts9 e hK hg9=>?_)
          ·simp only[go_sem];exact h ts' d'
          · simp only[go_sem]
            repeat' apply And.intro
            all_goals first
             |omega
             |exact⟨_,qzb (qzc (qzo (les_rb (ps:=[]) (qzk r)))),hK hg9⟩
   · rw[if_neg (qzg h)]at hK;simp only[qwg]at hK;simp only[go_sem];refine⟨ts4,0,rfl,rfl,hg4,?_⟩;simp only[go_sem];refine qz9 (wT 0 (wT 3 (wC 1 (wB 2 (wE 4 5 6 (wT 7 (wA 8 wZ))) 4 (wE 2 5 6 (wT 7 (wA 8 wZ)))) 2 (wB 1 (wE 4 5 6 (wT 7 (wA 8 wZ))) 4 (wB 1 (wD 5 6 (wT 7 (wA 8 wZ))) 5 (wD 1 6 (wT 7 (wA 8 wZ))))) 4 (wB 1 (wE 2 5 6 (wT 7 (wA 8 wZ))) 2 (wB 1 (wD 5 6 (wT 7 (wA 8 wZ))) 5 (wD 1 6 (wT 7 (wA 8 wZ)))))))) ?_;simp only[go_sem]
     repeat' apply And.intro
     all_goals
      refine⟨ts4,rfl,rfl,hg4,?_⟩;refine qzi hK (fun a c h ts' d'=>?_) (fun b ts9 e hK hg9=>?_)
      ·simp only[go_sem];exact h ts' d'
      · simp only[go_sem]
        repeat' apply And.intro
        all_goals first
         |omega
         |exact⟨_,qzb (qzc (qzo (les_rb (ps:=[]) (qzc (k:=8) (ks:=[]) qqp)))),hK hg9⟩
 · rw [if_neg (qzg h),zjo]at hK;refine⟨ts2,0,rfl,rfl,hg2,?_⟩;refine qzi hK (fun a c h ts' d'=>?_) (fun ps ts3 e hK hg3=>?_)
   ·simp only[go_sem];exact h ts' d'
   · obtain ⟨hl,hn⟩:=Lg.list_len Lg.param_eats e;have hl2:=hg2.2;rw[zjo]at hK;simp only[go_sem];refine⟨Lg.sRpar,ts3,0,rfl,rfl,hg3,?_⟩;refine qzi hK (fun a c h ts' d'=>?_) (fun x ts4 e hK hg4=>?_)
     ·simp only[go_sem];exact h ts' d'
     simp only[qwg]at hK;simp only[go_sem]
     refine⟨ts4,0,Lg.sArrow,rfl,rfl,hg4,fun h=>?_,fun h=>?_⟩
     · rw[if_pos h]at hK;simp only[go_sem];refine⟨ts4.tail,0,Lg.sAmp,rfl,rfl,hg4.isT h,?_⟩;simp only[go_sem]
       refine⟨fun h2=>?_,fun h2=>?_⟩
       ·rw[if_pos h2]at hK;refine⟨ts4.tail,0,20,rfl,rfl,hg4.isT h,?_⟩;simp only[go_sem];exact hK ts4.tail 0
       · rw[if_neg (qzg h2)]at hK;refine⟨ts4.tail,0,rfl,rfl,hg4.isT h,?_⟩;refine qzi hK (fun a c h ts' d'=>?_) (fun r ts8 e hK hg8=>?_)
         ·simp only[go_sem];exact h ts' d'
         · simp only[go_sem];refine qz9 (wT 0 (wT 3 (wC 1 (wB 2 (wE 4 5 6 (wT 7 (wA 8 wZ))) 4 (wE 2 5 6 (wT 7 (wA 8 wZ)))) 2 (wB 1 (wE 4 5 6 (wT 7 (wA 8 wZ))) 4 (wB 1 (wD 5 6 (wT 7 (wA 8 wZ))) 5 (wD 1 6 (wT 7 (wA 8 wZ))))) 4 (wB 1 (wE 2 5 6 (wT 7 (wA 8 wZ))) 2 (wB 1 (wD 5 6 (wT 7 (wA 8 wZ))) 5 (wD 1 6 (wT 7 (wA 8 wZ)))))))) ?_;simp only[go_sem]
           repeat' apply And.intro
           all_goals
            refine⟨ts8,rfl,rfl,hg8,?_⟩;refine qzi hK (fun a c h ts' d'=>?_) (fun b ts9 e hK hg9=>?_)
            ·simp only[go_sem];exact h ts' d'
            · simp only[go_sem]
              repeat' apply And.intro
              all_goals first
               |omega
               |(simp only[lC,qzn,lB,lH];done)
               |exact⟨_,qzb (qzc (qzo (les_rb (ps:=ps) (qzk r)))),hK hg9⟩
     · rw[if_neg (qzg h)]at hK;simp only[qwg]at hK;simp only[go_sem];refine⟨ts4,0,rfl,rfl,hg4,?_⟩;simp only[go_sem];refine qz9 (wT 0 (wT 3 (wC 1 (wB 2 (wE 4 5 6 (wT 7 (wA 8 wZ))) 4 (wE 2 5 6 (wT 7 (wA 8 wZ)))) 2 (wB 1 (wE 4 5 6 (wT 7 (wA 8 wZ))) 4 (wB 1 (wD 5 6 (wT 7 (wA 8 wZ))) 5 (wD 1 6 (wT 7 (wA 8 wZ))))) 4 (wB 1 (wE 2 5 6 (wT 7 (wA 8 wZ))) 2 (wB 1 (wD 5 6 (wT 7 (wA 8 wZ))) 5 (wD 1 6 (wT 7 (wA 8 wZ)))))))) ?_;simp only[go_sem]
       repeat' apply And.intro
       all_goals
        refine⟨ts4,rfl,rfl,hg4,?_⟩;refine qzi hK (fun a c h ts' d'=>?_) (fun b ts9 e hK hg9=>?_)
        ·simp only[go_sem];exact h ts' d'
        · simp only[go_sem]
          repeat' apply And.intro
          all_goals first
           |omega
           |(simp only[lC,qzn,lB,lH];done)
           |exact⟨_,qzb (qzc (qzo (les_rb (ps:=ps) (qzc (k:=8) (ks:=[]) qqp)))),hK hg9⟩
theorem seenL_map (l:List Nat):zzm (l.map fun(i:Nat)=>LV.d (.int .i64 (i:Int)))=some l:=by
 induction l with
 |nil=>rfl
 |cons i l ih=>simp only[List.map_cons,zzm,ih];simp
theorem seenL_snoc (l:List Nat)(i:Nat):zzm ((l.map fun(i:Nat)=>LV.d (.int .i64 (i:Int)))++[.d (.int .i64 (i:Int))])=some (l++[i]):=by
 have:=seenL_map (l++[i]);simpa using this
def sgn:Nat->List UInt8
 |0=>Lg.sPlus
 |_=>Lg.sMinus
def both (ts:List Tok)(i:Nat):Bool:=Lg.isT (sgn i) ts&&(Lg.hd ts.tail).kind==1
theorem qjg {s:List UInt8}{ts:List Tok}(h:Lg.isT s ts=true):(Lg.hd ts).text=s:=by
 unfold Lg.isT at h;simp only[Bool.and_eq_true,beq_iff_eq]at h;exact h.2
def sumK (n:Tree)(ts:List Tok):Lg.PR Tree:=
 if Lg.isT Lg.sPlus ts&&(Lg.hd ts.tail).kind==1 then Lg.bnd (Lg.name ts.tail) fun k ts=>.ok (.node 21 [] 0 n.pos [n,k],ts)
 else if Lg.isT Lg.sMinus ts&&(Lg.hd ts.tail).kind==1 then Lg.bnd (Lg.name ts.tail) fun k ts=>.ok (.node 22 [] 0 n.pos [n,k],ts)
 else Lg.more n ts
theorem sumK_both {n:Tree}{ts:List Tok}{i:Nat}(hi:i<2)(h:both ts i=true):sumK n ts=Lg.bnd (Lg.name ts.tail) fun k ts=>.ok (.node (21+i) [] 0 n.pos [n,k],ts):=by
 match i,hi with
 |0,_=>exact if_pos h
 |1,_=>
  have h1:Lg.isT Lg.sMinus ts=true:=by
   unfold both at h;simp only[Bool.and_eq_true]at h;exact h.1
  have h0:(Lg.isT Lg.sPlus ts&&(Lg.hd ts.tail).kind==1)=false:=by
   rw[Bool.and_eq_false_iff];left;rw[Bool.eq_false_iff];intro hp;have:=(qjg hp).symm.trans (qjg h1);exact absurd this (by decide)
  unfold sumK;rw[if_neg (by rw[h0];decide)];exact if_pos h
theorem sumK_none {n:Tree}{ts:List Tok}(h0:both ts 0=false)(h1:both ts 1=false):sumK n ts=Lg.more n ts:=by
 unfold sumK;rw[if_neg (show¬(Lg.isT Lg.sPlus ts&&(Lg.hd ts.tail).kind==1)=true from Bool.eq_false_iff.1 h0),if_neg (show¬(Lg.isT Lg.sMinus ts&&(Lg.hd ts.tail).kind==1)=true from Bool.eq_false_iff.1 h1)]
theorem expr_OK:OK Tryz.prog 170 exprS:=by
 refine fn_OK' qzu (E:=EV) (sp:=spL [(42,zqg),(43,hasS),(155,numsS),(81,nameS),(126,termS),(80,isS),(153,argsS),(45,zzs),(156,moreS)]) qzt qzl (OKs.ok ⟨qjo,⟨qjl,⟨qwn,⟨qk8,⟨zxq,⟨is_OK,⟨args_OK,⟨qja,⟨more_OK,trivial⟩⟩⟩⟩⟩⟩⟩⟩⟩) func170 rfl ntmps170 results170 call170 [1000] none ?_;rintro ys bx Kr Kp ⟨ts,deep,rfl,hb,hg,hK⟩
 refine⟨[(1000,pbox ts deep)],rfl,⟨by decide,hb,trivial⟩,by simp,?_⟩
 unfold Lg.expr at hK;simp only[go_sem];refine⟨ts,deep,rfl,rfl,hg,?_⟩;simp only[go_sem]
 refine⟨ts,deep,Lg.sNew,rfl,rfl,hg,fun h=>?_,fun h=>?_⟩
 · rw[if_pos h]at hK;simp only[go_sem];refine⟨1,.inl rfl,ts.tail,deep,rfl,rfl,hg.isT h,?_⟩;refine qzi hK (fun a c h ts' d'=>?_) (fun v ts1 e hK hg1=>?_)
   ·simp only[go_sem];exact h ts' d'
   ·simp only[go_sem];exact⟨_,qzb (qzc qqp),hK hg1⟩
 rw[if_neg (qzg h)]at hK;simp only[go_sem]
 refine⟨ts,deep,Lg.sArray,rfl,rfl,hg,fun h=>?_,fun h=>?_⟩
 · rw[if_pos h]at hK;simp only[go_sem];refine⟨ts.tail,deep,rfl,rfl,hg.isT h,?_⟩;refine qzi hK (fun a c h ts' d'=>?_) (fun v ts1 e hK hg1=>?_)
   ·simp only[go_sem];exact h ts' d'
   ·simp only[go_sem];exact⟨_,qzb (qzc qqp),hK hg1⟩
 rw[if_neg (qzg h)]at hK;simp only[go_sem]
 refine⟨ts,deep,Lg.sAmp,rfl,rfl,hg,fun h=>?_,fun h=>?_⟩
 · rw[if_pos h]at hK;simp only[go_sem]
   refine⟨ts.tail,deep,Lg.sMut,rfl,rfl,hg.isT h,fun h2=>?_,fun h2=>?_⟩
   · rw[if_pos h2]at hK;simp only[go_sem];refine⟨ts.tail.tail,deep,rfl,rfl,(hg.isT h).isT h2,?_⟩;refine qzi hK (fun a c h ts' d'=>?_) (fun v ts1 e hK hg1=>?_)
     ·simp only[go_sem];exact h ts' d'
     ·simp only[go_sem];exact⟨_,qzb (qzc qqp),hK hg1⟩
   · rw[if_neg (qzg h2)]at hK;simp only[go_sem];refine⟨ts.tail,deep,rfl,rfl,hg.isT h,?_⟩;refine qzi hK (fun a c h ts' d'=>?_) (fun v ts1 e hK hg1=>?_)
     ·simp only[go_sem];exact h ts' d'
     ·simp only[go_sem];exact⟨_,qzb (qzc qqp),hK hg1⟩
 rw[if_neg (qzg h)]at hK;simp only[go_sem];refine⟨ts,deep,rfl,rfl,hg,?_⟩;simp only[go_sem]
 refine⟨fun h=>?_,fun h=>?_⟩
 · rw[if_pos (by simpa using h)]at hK;refine⟨ts,deep,rfl,rfl,hg,?_⟩;refine qq5 hK (fun a c h ts' d'=>?_) (fun v ts1 e hK hg1=>?_)
   ·simp only[go_sem];exact h ts' d'
   ·simp only[go_sem];exact⟨_,qzb (qzk v),hK hg1⟩
 rw[if_neg (by simpa using h)]at hK;refine⟨ts,deep,rfl,rfl,hg,?_⟩;refine qzi hK (fun a c h ts' d'=>?_) (fun n ts1 e hK hg1=>?_)
 ·simp only[go_sem];exact h ts' d'
 obtain⟨k0,t0,m0,p0,ks0⟩:=n;simp only[go_sem];refine⟨ts1,deep,Lg.sLpar,rfl,rfl,hg1,?_⟩;simp only[go_sem]
 refine⟨fun h=>?_,fun h=>?_⟩
 · rw[if_pos h]at hK;refine⟨ts1,deep,rfl,rfl,hg1,?_⟩;refine qzi hK (fun a c h ts' d'=>?_) (fun xs ts2 e hK hg2=>?_)
   ·simp only[go_sem];exact h ts' d'
   ·simp only[go_sem];exact⟨_,qzb (qzc (.rfl _)),hK hg2⟩
 rw[if_neg (qzg h)]at hK
 refine⟨ts1,deep,Lg.sLbr,rfl,rfl,hg1,fun h=>?_,fun h=>?_⟩
 · rw[if_pos h]at hK;simp only[go_sem];refine⟨ts1.tail,deep,rfl,rfl,hg1.isT h,?_⟩;refine qzi hK (fun a c h ts' d'=>?_) (fun k ts2 e hK hg2=>?_)
   ·simp only[go_sem];exact h ts' d'
   · simp only[go_sem];refine⟨Lg.sRbr,ts2,deep,rfl,rfl,hg2,?_⟩;refine qzi hK (fun a c h ts' d'=>?_) (fun x ts3 e hK hg3=>?_)
     ·simp only[go_sem];exact h ts' d'
     ·simp only[go_sem];exact⟨_,qzb (qzc (qvl rfl)),hK hg3⟩
 rw[if_neg (qzg h)]at hK;replace hK:post (sumK (.node k0 t0 m0 p0 ks0) ts1) (fun x ts'=>Good ts'->Kr (.d (qzr x)) (put 1000 (pbox ts' deep) nix) none) (fun a c=>∀ts' d',Kp (.ifc 145 (.ag [.int .i64 a,.int .i64 c])) (put 1000 (pbox ts' d') nix)):=hK;simp only[go_sem]
 refine qzj (T:={l:List Nat //∀i∈l,both ts1 i=false})
  (fun l=>⟨102,put 0 (.bp 1000 0) (put 2 (.bp 2 0) (put 3 (.bp 3 0) (put 69 (.bp 69 0) nix))),put 1000 (pbox ts1 deep) (put 2 ⟨[.d (.int .i64 0),.d (.st []),.d (.int .i64 0),.d (.int .i64 0),.d (.imm (.slice none 0 0))],92⟩ (put 3 ⟨[.d (.int .i64 k0),.d (.st t0),.d (.int .i64 m0),.d (.int .i64 p0),.d (.sl 5 (qze ks0) false)],92⟩ (put 67 ⟨[.d (.st [43]),.d (.int .i64 21),.d (.st [45]),.d (.int .i64 22)],1000000⟩ (put 69 ⟨.mp 67::l.1.map (fun(i:Nat)=>LV.d (.int .i64 (i:Int))),1000003⟩ nix)))),nix⟩)
  (fun l=>(if 0∈l.1 then 0 else 1)+(if 1∈l.1 then 0 else 1)) ⟨[],fun i hi=>by cases hi⟩
  ⟨rfl,sP4 qza,sP5 qza,fun _ _ h=>h⟩ ?_
 rintro⟨l,hl⟩;simp only[seenL_map,go_sem];refine⟨?_,?_⟩
 · intro i k v hi hns hk hv;replace hi:i<2:=hi
   have hkv:k=.d (.st (sgn i))/\v=.d (.int .i64 (21+i)):=by
    match i,hi with
    |0,_=>exact⟨(Option.some.inj hk).symm,(Option.some.inj hv).symm⟩
    |1,_=>exact⟨(Option.some.inj hk).symm,(Option.some.inj hv).symm⟩
   obtain⟨rfl,rfl⟩:=hkv;simp only[seenL_snoc,List.getLast?_concat,hk,hv,go_sem];refine sm_use hv ?_;simp only[go_sem];refine⟨ts1,deep,sgn i,rfl,rfl,hg1,?_⟩;by_cases hs:Lg.isT (sgn i) ts1=true
   · obtain⟨a,l1,rfl⟩:=hg1.cons;obtain⟨b,l2,rfl⟩:=(hg1.isT hs).cons;simp only[pbox,hs,go_sem]
     refine⟨by omega,fun hbk=>?_,fun hbk=>?_⟩
     · have hbo:both (a::b::l2) i=true:=by unfold both;rw[hs];exact hbk
       rw[sumK_both hi hbo]at hK;refine⟨sgn i,a::b::l2,deep,rfl,rfl,hg1,?_⟩;rw[must_ok hs];intro hg2;replace hg2:Good (b::l2):=hg2;replace hK:post (Lg.bnd (Lg.name (b::l2)) fun k ts=>.ok (.node (21+i) [] 0 p0 [Lg.Tree.node k0 t0 m0 p0 ks0,k],ts)) (fun x ts'=>Good ts'->Kr (.d (qzr x)) (put 1000 (pbox ts' deep) nix) none) (fun a c=>∀ts' d',Kp (.ifc 145 (.ag [.int .i64 a,.int .i64 c])) (put 1000 (pbox ts' d') nix)):=hK;simp only[go_sem];refine qz9 (wT 0 (wT 1 (wT 4 (wC 2 (wB 3 (wF 5 6 7 8 wZ) 5 (wF 3 6 7 8 wZ)) 3 (wB 2 (wF 5 6 7 8 wZ) 5 (wB 2 (wE 6 7 8 wZ) 6 (wE 2 7 8 wZ))) 5 (wB 2 (wF 3 6 7 8 wZ) 3 (wB 2 (wE 6 7 8 wZ) 6 (wE 2 7 8 wZ))))))) ?_;simp only[go_sem]
       repeat' apply And.intro
       all_goals
        refine⟨b::l2,deep,rfl,rfl,hg2,?_⟩;refine qzi hK (fun a c h ts' d'=>?_) (fun k ts3 e hK hg3=>?_)
        ·simp only[go_sem];exact h ts' d'
        · simp only[go_sem]
          repeat' apply And.intro
          all_goals exact⟨_,qzb (qzc (qzo (.cons (qzc (.rfl _)) (.cons (.rfl _) .nil)))),hK hg3⟩
     · have HB:both (a::b::l2) i=false:=by unfold both;rw[hs];exact hbk
       refine⟨⟨l++[i],?_⟩,⟨rfl,sP4 qza,sP4 (qzd ?_ qza),fun _ _ h=>h⟩,?_⟩
       · intro j hj
         rcases List.mem_append.1 hj with hj|hj
         ·exact hl j hj
         · obtain rfl:j=i:=by simpa using hj
           exact HB
       · show _=some (Box.mk (_::List.map _ (l++[i])) _)
         rw[List.map_append];rfl
       · show(if 0∈l++[i]then 0 else 1)+(if 1∈l++[i]then 0 else 1)<(if 0∈l then 0 else 1)+(if 1∈l then 0 else 1)
         match i,hi,hns with
         |0,_,hns=>simp[hns]
         |1,_,hns=>simp[hns]
   · have hs':Lg.isT (sgn i) ts1=false:=by simpa using hs
     simp only[pbox,hs',go_sem]
     have HB:both ts1 i=false:=by unfold both;rw[hs'];rfl
     refine⟨⟨l++[i],?_⟩,⟨rfl,sP4 qza,sP4 (qzd ?_ qza),fun _ _ h=>h⟩,?_⟩
     · intro j hj
       rcases List.mem_append.1 hj with hj|hj
       ·exact hl j hj
       · obtain rfl:j=i:=by simpa using hj
         exact HB
     · show _=some (Box.mk (_::List.map _ (l++[i])) _)
       rw[List.map_append];rfl
     · show(if 0∈l++[i]then 0 else 1)+(if 1∈l++[i]then 0 else 1)<(if 0∈l then 0 else 1)+(if 1∈l then 0 else 1)
       match i,hi,hns with
       |0,_,hns=>simp[hns]
       |1,_,hns=>simp[hns]
 · intro hall;rw[sumK_none (hl 0 (hall 0 (by decide))) (hl 1 (hall 1 (by decide)))]at hK;simp only[go_sem];refine⟨.node k0 t0 m0 p0 ks0,ts1,deep,rfl,rfl,hg1,?_⟩;refine qq5 hK (fun a c h ts' d'=>?_) (fun n ts2 e hK hg2=>?_)
   ·simp only[go_sem];exact h ts' d'
   ·simp only[go_sem];exact⟨_,qzb (qzk n),hK hg2⟩
theorem le_int {x:D}{k:IntKind}{n:Int}(h:D.le x (.int k n)):x=.int k n:=by cases h;rfl
theorem le_st {x:D}{b:Bs}(h:D.le x (.st b)):x=.st b:=by cases h;rfl
theorem qxu {xs:List D}{y:D}{ys:List D}(h:D.les xs (y::ys)):∃x l,xs=x::l/\D.le x y/\D.les l ys:=by
 cases h with|cons a t=>exact⟨_,_,rfl,a,t⟩
theorem le_ag_inv {x:D}{ys:List D}(h:D.le x (.ag ys)):∃xs,x=.ag xs/\D.les xs ys:=by
 cases h with
 |rfl=>exact⟨ys,rfl,D.les.refl _⟩
 |ag h=>exact⟨_,rfl,h⟩
theorem zx4 {y:D}{sz:Nat}{xs:List D}{f:Bool}(h:D.le y (.sl sz xs f)):(y=.imm (.slice none 0 0)/\xs=[])\/∃ys f',y=.sl sz ys f'/\D.les ys xs:=by
 cases h with
 |rfl=>exact .inr ⟨xs,f,rfl,D.les.refl _⟩
 |nil=>exact .inl ⟨rfl,rfl⟩
 |sl h _=>exact .inr ⟨_,_,rfl,h⟩
theorem one_sl {y:D}{sz:Nat}{xs:List D}{f:Bool}(h:D.le y (.sl sz xs f)):one (.d y)=true:=by
 rcases zx4 h with⟨rfl,_⟩|⟨_,_,rfl,_⟩<;>rfl
theorem qk9 {x:D}{t:Tree}(h:D.le x (qzr t)):∃y,x=.ag [.int .i64 t.kind,.st t.text,.int .i64 t.num,.int .i64 t.pos,y]/\D.le y (.sl 5 (qze t.kids) false):=by
 obtain⟨k,tx,n,p,ks⟩:=t;rw[qzr]at h;obtain⟨xs,rfl,a0⟩:=le_ag_inv h;clear h;obtain⟨x1,l1,rfl,h1,a1⟩:=qxu a0;obtain⟨x2,l2,rfl,h2,a2⟩:=qxu a1;obtain⟨x3,l3,rfl,h3,a3⟩:=qxu a2;obtain⟨x4,l4,rfl,h4,a4⟩:=qxu a3;obtain⟨x5,l5,rfl,h5,a5⟩:=qxu a4;cases a5;obtain rfl:=le_int h1;obtain rfl:=le_st h2;obtain rfl:=le_int h3;obtain rfl:=le_int h4;exact⟨x5,rfl,h5⟩
theorem les_get {ys:List D}{ks:List Tree}(h:D.les ys (qze ks)){i:Nat}(hi:i<ks.length):∃y,ys[i]?=some y/\D.le y (qzr ks[i]):=by
 induction ks generalizing ys i with
 |nil=>simp at hi
 |cons k ks ih=>
  obtain⟨y,l,rfl,h1,h⟩:=qxu h
  cases i with
  |zero=>exact⟨y,rfl,h1⟩
  |succ i=>
   simp only[lB]at hi;obtain⟨y',h2,h3⟩:=ih h (i:=i) (by omega)
   exact⟨y',by simpa using h2,by simpa using h3⟩
theorem zj7 (ks:List Tree){i:Nat}(hi:i<ks.length):Lg.qvj (ks.take (i+1))=Lg.qvj (ks.take i)+Lg.size ks[i]:=by
 induction ks generalizing i with
 |nil=>simp at hi
 |cons k ks ih=>
  cases i with
  |zero=>simp[Lg.qvj]
  |succ i=>
   simp only[lB]at hi;have:=ih (i:=i) (by omega);simp only[List.take_succ_cons,Lg.qvj,this,List.getElem_cons_succ];omega
theorem zxb (ks:List Tree)(i:Nat):Lg.qvj (ks.take i)<=Lg.qvj ks:=by
 induction ks generalizing i with
 |nil=>simp[Lg.qvj]
 |cons k ks ih=>
  cases i with
  |zero=>simp[Lg.qvj]
  |succ i=>simp only[List.take_succ_cons,Lg.qvj];have:=ih i;omega
theorem zk9 (t:Tree):Lg.size t=1+Lg.qvj t.kids:=by cases t;rw[Lg.size];rfl
theorem zk8 (t:Tree):0<Lg.size t:=by rw[zk9];omega
theorem qj2 (ks:List Tree):ks.length<=Lg.qvj ks:=by
 induction ks with
 |nil=>simp[Lg.qvj]
 |cons k ks ih=>simp only[lB,Lg.qvj];have:=zk8 k;omega
def sizeS (n:Nat):Spec:=fun ys bx Kr Kp=>∃x t,ys=[.d x]/\D.le x (qzr t)/\Lg.size t<=n/\Kr (.d (.int .i64 (Lg.size t))) nix none
theorem size_step (n:Nat)(hn:n<9223372036854775807)(ih:OK Tryz.prog 47 (sizeS n)):OK Tryz.prog 47 (sizeS (n+1)):=by
 refine fn_OK' qzu (E:=EV) (sp:=spL [(47,(sizeS n))]) qzt qzl (OKs.ok ⟨ih,trivial⟩) func47 rfl ntmps47 results47 call47 [] none ?_;rintro ys bx Kr Kp ⟨x,t,rfl,hle,hsz,hK⟩
 refine⟨[],rfl,trivial,by simp,?_⟩
 obtain⟨y,rfl,hy⟩:=qk9 hle;have ho:=one_sl hy;rw[zk9]at hsz hK
 generalize t.kids=ks at hy hsz hK
 clear hle
 rcases zx4 hy with⟨rfl,he⟩|⟨ys,f',rfl,hle⟩
 · have h0:ks=[]:=by cases ks with
    |nil=>rfl
    |cons k ks=>simp[qze]at he
   subst h0;simp only[go_sem]
   refine qzj (T:=Unit) (fun _=>⟨19,put 3 (.d (.int .i64 1)) (put 8 (.d (.int .i64 0)) (put 9 (.d (.int .i64 0)) nix)),nix,nix⟩) (fun _=>0) () ⟨rfl,sP3 qza,qza,qza⟩ ?_
   rintro⟨⟩;simp only[go_sem]
   exact⟨fun h=>absurd h (by simp),fun _=>⟨_,qzb (.rfl _),hK⟩⟩
 · have hlen:ys.length=ks.length:=by rw[hle.length,qzn]
   simp only[hlen,go_sem]
   refine qzj (T:={i:Nat //i<=ks.length}) (fun i=>⟨19,put 3 (.d (.int .i64 ((1+Lg.qvj (ks.take i.1):Nat):Int))) (put 7 (.d (.sl 5 ys f')) (put 8 (.d (.int .i64 ks.length)) (put 9 (.d (.int .i64 i.1)) nix))),nix,nix⟩) (fun i=>ks.length-i.1) ⟨0,Nat.zero_le _⟩
    ⟨rfl,qzd (by simp[put,Lg.qvj]) (sP3 qza),qza,qza⟩ ?_
   rintro⟨i,hi⟩;have hsi:=zxb ks i;have hls:=qj2 ks;simp only[hlen,go_sem]
   refine⟨fun h=>?_,fun h=>?_⟩
   · have hlt:i<ks.length:=by have:=lF h;omega
     obtain⟨y,hy1,hy2⟩:=les_get hle hlt;have hst:=zj7 ks hlt;have hs2:=zxb ks (i+1);obtain⟨y5,rfl,hy5⟩:=qk9 hy2;have ho:=one_sl hy5
     refine⟨by omega,by omega,?_⟩
     rw[lA,hy1];simp only[ho,go_sem]
     refine⟨_,ks[i],rfl,hy2,by omega,?_⟩
     simp only[go_sem]
     refine⟨⟨by omega,by omega⟩,⟨by omega,by omega⟩,⟨i+1,hlt⟩,⟨rfl,qzd ?_ (sP2 (qzd ?_ qza)),qza,qza⟩,?_⟩
     · show some (LV.d (.int .i64 _))=some (LV.d (.int .i64 _))
       rw[hst];congr 3;omega
     · show some (LV.d (.int .i64 _))=some (LV.d (.int .i64 _))
       congr 3
     · show ks.length-(i+1)<ks.length-i
       omega
   · have e:i=ks.length:=by have:=lG h;omega
     subst e;rw[List.take_length];exact⟨_,qzb (.rfl _),hK⟩
theorem size_OK:∀n:Nat,n<=9223372036854775807->OK Tryz.prog 47 (sizeS n)
 |0,_=>{enters:=call47,calls:=fun ys bx Kr Kp ⟨_,t,_,_,h,_⟩=>by have:=zk8 t;omega}
 |n+1,h=>size_step n (by omega) (size_OK n (by omega))
end Lx
