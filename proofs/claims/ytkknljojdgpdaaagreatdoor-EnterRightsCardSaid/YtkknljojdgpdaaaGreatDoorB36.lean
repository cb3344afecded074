import Derived.Test.YtkknljojdgpdaaaGreatDoorB17
set_option maxHeartbeats 32000000
set_option linter.unusedSimpArgs false
set_option linter.unusedVariables false
set_option maxRecDepth 20000
namespace Lx
open Go
open Lg (Tok Tree Ty Sym Chk Hp)
open Go.Proofs (Tryz.prog)
open Go.Proofs.Tryz
theorem draw_readcs {E:Env}{sp:FuncId->Option SpecX}{ops:Array Oper}{s:S}{K:S->Prop}{Kp:D->S->Prop}{w:Ph (qkx E sp ops s K Kp)}(ks rs:List Nat)(p:Plan){α:Type}(I:α->S)(h1:wxT ops p rs ops.size (Array.replicate ops.size false)=true)(h2:Region.noSelect ops=true)
  (h:zjr ks s fun s=>evW (ops.toList.map (·.dst)) (fun ds=>evW (ops.toList.map o3) (fun l=>rsM E sp ds l rs s fun s=>qqB E sp ds l p s (fun s'=>evW s' (fun s'=>qxU (∃i,Sub s' (I i)) ⟨⟩) ⟨⟩) Kp) ⟨⟩) ⟨⟩)(h0:∀i,K (I i)):qxU (qkx E sp ops s K Kp) w:=by
 refine .inl ⟨ks,rs,p,h1,h2,.inr ⟨fun s'=>∃i,Sub s' (I i),fun _ ⟨i,h⟩=>⟨I i,h0 i,h⟩,?_⟩⟩;have e:(fun s=>qqB E sp (ops.toList.map (·.dst)) (ops.toList.map o3) p s (fun s'=>evW s' (fun s'=>qxU (∃i,Sub s' (I i)) ⟨⟩) ⟨⟩) Kp)=fun s=>qx3 E sp ops p s (fun s'=>∃i,Sub s' (I i)) Kp:=by{funext s;exact(qxH E sp ops p s (fun s'=>evW s' (fun s'=>qxU (∃i,Sub s' (I i)) ⟨⟩) ⟨⟩) Kp).symm};have e2:(fun s=>evW (ops.toList.map (·.dst)) (fun ds=>evW (ops.toList.map o3) (fun l=>rsM E sp ds l rs s fun s=>qqB E sp ds l p s (fun s'=>evW s' (fun s'=>qxU (∃i,Sub s' (I i)) ⟨⟩) ⟨⟩) Kp) ⟨⟩) ⟨⟩)=fun s=>rsK E sp ops rs s fun s=>qx3 E sp ops p s (fun s'=>∃i,Sub s' (I i)) Kp:=by{funext s;rw[<-e,zjK];rfl};rw[<-e2];exact h
theorem zip_el:∀(cs:List Chk) (us:List D),(∀v∈us,one (.d v)=true)->(List.zipWith zqE cs us).all (D.el 11)=true
 |[],_,_=>rfl
 |_::_,[],_=>rfl
 |c::cs,u::us,h=>by
  have h0:=h u (List.mem_cons_self ..);rw[List.zipWith_cons_cons,List.all_cons,zip_el cs us fun v hv=>h v (List.mem_cons_of_mem _ hv),Bool.and_true];show((true&&(11==11))&&(true&&(true&&(true&&(true&&(true&&(true&&(true&&(true&&(true&&(true&&(one (.d u)&&true))))))))))))=true;rw[h0];rfl
theorem zip_flat:∀(cs:List Chk) (us:List D),(List.zipWith zqE cs us).all D.flat=true
 |[],_=>rfl
 |_::_,[]=>rfl
 |c::cs,u::us=>by rw[List.zipWith_cons_cons,List.all_cons,zip_flat cs us];rfl
def cloneKS:qzP:=fun ys bx Kr _=>∃v,∃cs:List Chk,∃us:List D,ys=[.d v]/\yx9 bx v cs us/\us.length=cs.length/\cs.length<=100000/\(∀u∈us,one (.d u)=true)/\
 (cs=[]->Kr (.d (.imm (.slice none 0 0))) (ovS bx nix) none)/\
 (cs≠[]->∀b c,bx (b+1000000)=none->cs.length<=c->Kr (.d (slD b cs.length c)) (put (b+1000000) (qxT cs us c) (ovS bx nix)) none)
theorem cloneK_OK:OKS Tryz.prog 34 cloneKS:=by
 refine qjV qzu (E:=(ES 7)) (sp:=spL []) qzt qzl (OKs.ok trivial) func34 rfl ntmps34 results34 call34 [] ?_;rintro ys bx Kr Kp ⟨v,cs,us,rfl,hv,hul,hl,ho,h1,h2⟩ hN;refine⟨trivial,by simp,?_⟩;rcases hv with⟨rfl,rfl⟩|⟨hn,A,c,rfl,hc,hA⟩;{simp only[go_sem];refine⟨fun _=>qz8 [] ?_,fun h=>nomatch h⟩;simp only[go_sem];exact⟨_,_,qzb (.rfl _),qz6,h1 rfl⟩};{simp only[go_sem];refine⟨fun h=>(nomatch h),fun _=>?_⟩;have hz:(List.zipWith zqE cs us).length=cs.length:=by{rw[List.length_zipWith];omega};refine⟨_,hA,rfl,List.zipWith zqE cs us,hz,zip_el _ _ ho,?_,zip_flat _ _,?_⟩;{unfold qxT;rw[List.take_append_of_le_length (by rw[qjw _ _ hul];omega),List.take_of_length_le (by rw[qjw _ _ hul];omega)]};{have hne:List.zipWith zqE cs us≠[]:=fun e=>hn (List.eq_nil_of_length_eq_zero (by rw[<-hz,e];rfl));refine⟨_,rfl,rfl,rfl,by omega,by omega,fun e=>absurd e hne,fun _ b k h3 hk=>?_⟩;simp only[hN.fgt,go_sem];refine qz8 [] ?_;simp only[hN.fgt,go_sem];rw[qxA,hz];exact⟨_,_,qzb (.rfl _),qz6,h2 hn b k h3 (by omega)⟩}}
def cloneYS:qzP:=fun ys bx Kr _=>∃v,∃cs:List Sym,ys=[.d v]/\cellsOf bx v cs/\cs.length<=100000/\
 (cs=[]->∀v',qjz 4 v' []->Kr (.d v') (ovS bx nix) none)/\
 (cs≠[]->∀b c,bx (b+1000000)=none->cs.length<=c->Kr (.d (slD b cs.length c)) (put (b+1000000) (qkz cs c) (ovS bx nix)) none)
theorem sym_el:∀cs:List Sym,(cs.map qzR).all (D.el 4)=true/\(cs.map qzR).all D.flat=true
 |[]=>⟨rfl,rfl⟩
 |c::cs=>by
  obtain⟨h1,h2⟩:=sym_el cs;rw[List.map_cons,List.all_cons,List.all_cons,h1,h2];exact⟨rfl,rfl⟩
theorem cloneY_OK:OKS Tryz.prog 36 cloneYS:=by
 refine qjV qzu (E:=(ES 7)) (sp:=spL []) qzt qzl (OKs.ok trivial) func36 rfl ntmps36 results36 call36 [] ?_;rintro ys bx Kr Kp ⟨v,cs,rfl,hv,hl,h1,h2⟩ hN;refine⟨trivial,by simp,?_⟩;rcases hv with⟨hn,⟨f,rfl⟩|⟨rfl,_⟩⟩|⟨hn,A,c,rfl,hc,hA⟩;{simp only[go_sem];refine fun b=>⟨fun hb=>?_,fun hb=>?_⟩;{refine qz8 [] ?_;simp only[go_sem];exact⟨_,_,qzb (.rfl _),qz6,h1 hn _ (.inr ⟨rfl,rfl⟩)⟩};{refine⟨_,rfl,rfl,rfl,by decide,by decide,fun _=>?_,fun h=>absurd rfl h⟩;simp only[go_sem];refine qz8 [] ?_;simp only[go_sem];exact⟨_,_,qzb (.rfl _),qz6,h1 hn _ (.inl ⟨_,rfl⟩)⟩}};{simp only[go_sem];refine⟨fun _=>qz8 [] ?_,fun h=>(nomatch h)⟩;simp only[go_sem];exact⟨_,_,qzb (.rfl _),qz6,h1 hn _ (.inr ⟨rfl,rfl⟩)⟩};{simp only[go_sem];obtain⟨e1,e2⟩:=sym_el cs;refine⟨fun h=>(nomatch h),fun _=>?_⟩;refine⟨_,hA,rfl,cs.map qzR,by simp,e1,?_,e2,?_⟩;{unfold qkz;rw[List.take_append_of_le_length (by rw[zjA];omega),List.take_of_length_le (by rw[zjA];omega)]};{have hne:cs.map qzR≠[]:=fun e=>hn (List.map_eq_nil_iff.1 e);refine⟨_,rfl,rfl,rfl,by simp;omega,by simp;omega,fun e=>absurd e hne,fun _ b k h3 hk=>?_⟩;simp only[hN.fgt,go_sem];refine qz8 [] ?_;simp only[hN.fgt,go_sem];rw[qxA];rw[lE]at hk;exact⟨_,_,qzb (.rfl _),qz6,h2 hn b k h3 hk⟩}}
def cloneFS:qzP:=fun ys bx Kr _=>∃v,∃fs:List (Int×Int×Int),ys=[.d v]/\qjz 3 v (fs.map qqp)/\fs.length<=100000/\∀v',qjz 3 v' (fs.map qqp)->Kr (.d v') nix none
theorem cloneF_OK:OK Tryz.prog 35 cloneFS:=by
 refine fn_OK' qzu (E:=EV) (sp:=spL []) qzt qzl (OKs.ok trivial) func35 rfl ntmps35 results35 call35 [] none ?_;rintro ys bx Kr Kp ⟨v,fs,rfl,hv,hl,hK⟩;refine⟨[],rfl,trivial,by simp,?_⟩;rcases hv with⟨f,rfl⟩|⟨rfl,hn⟩;{cases fs with|nil=>{simp only[go_sem];refine fun b=>⟨fun _=>⟨_,qzb (.rfl _),hK _ (.inr ⟨rfl,rfl⟩)⟩,fun _=>⟨_,qzb (.rfl _),hK _ (.inl ⟨_,rfl⟩)⟩⟩}|cons x xs=>{simp only[List.map_cons,go_sem];rw[lB]at hl;exact⟨by omega,by omega,_,qzb (.rfl _),hK _ (.inl ⟨_,rfl⟩)⟩}};{have hn:fs=[]:=by{simpa using hn};simp only[go_sem];exact⟨fun _=>⟨_,qzb (.rfl _),hK _ (.inr ⟨rfl,by rw[hn];rfl⟩)⟩,fun h=>(nomatch h)⟩}
end Lx
