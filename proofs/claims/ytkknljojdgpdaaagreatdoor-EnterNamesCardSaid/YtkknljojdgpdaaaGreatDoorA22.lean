import Derived.Test.YtkknljojdgpdaaaGreatDoorA15
import Derived.Test.YtkknljojdgpdaaaGreatDoorA21
set_option maxHeartbeats 32000000
set_option linter.unusedSimpArgs false
set_option linter.unusedVariables false
set_option maxRecDepth 20000
namespace Lx
open Go
open Lg (Tok Tree)
open Go.Proofs (Tryz.prog)
open Go.Proofs.Tryz
theorem rdigit_OK:OK Tryz.prog 138 (zzg Lg.zzb):=by
 refine fn_OK' qzu (E:=EV) (sp:=spL []) qzt qzl (OKs.ok trivial) func138 rfl ntmps138 results138 call138 [] none ?_;rintro ys bx Kr Kp ⟨c,rfl,hK⟩
 refine⟨[],rfl,trivial,by simp,?_⟩
 unfold Lg.zzb at hK;have e1:=dle1 48 c;have e2:=dle2 57 c
 rw[show((48:Nat):Int)=48 from rfl]at e1
 rw[show((57:Nat):Int)=57 from rfl]at e2
 simp only[e1,e2,go_sem]
 refine⟨fun h=>?_,fun h=>?_⟩
 ·rw[h,Bool.true_and]at hK;exact⟨_,qzb (.rfl _),hK⟩
 ·rw[h,Bool.false_and]at hK;exact⟨_,qzb (.rfl _),hK⟩
theorem rletter_OK:OK Tryz.prog 137 (zzg Lg.zzz):=by
 refine fn_OK' qzu (E:=EV) (sp:=spL []) qzt qzl (OKs.ok trivial) func137 rfl ntmps137 results137 call137 [] none ?_;rintro ys bx Kr Kp ⟨c,rfl,hK⟩
 refine⟨[],rfl,trivial,by simp,?_⟩
 unfold Lg.zzz at hK;have e1:=dle1 97 c;have e2:=dle2 122 c;have e3:=dbeq 95 c
 rw[show((97:Nat):Int)=97 from rfl]at e1
 rw[show((122:Nat):Int)=122 from rfl]at e2
 rw[show((95:Nat):Int)=95 from rfl]at e3
 simp only[e1,e2,e3,go_sem]
 refine⟨fun h=>⟨fun h2=>?_,fun h2=>?_⟩,fun h=>?_⟩
 ·rw[h,h2]at hK;exact⟨_,qzb (.rfl _),hK⟩
 ·rw[h,h2]at hK;exact⟨_,qzb (.rfl _),hK⟩
 ·rw[h]at hK;exact⟨_,qzb (.rfl _),hK⟩
theorem risKey_OK:OK Tryz.prog 139 keyS:=by
 refine fn_OK' qzu (E:=EV) (sp:=spL []) qzt qzl (OKs.ok trivial) func139 rfl ntmps139 results139 call139 [] none ?_;rintro ys bx Kr Kp ⟨l,rfl,hK⟩
 refine⟨[],rfl,trivial,by simp,?_⟩
 unfold Lg.isKey Lg.keys at hK;simp only[List.contains_cons,List.contains_nil]at hK;simp only[go_sem]
 refine⟨fun h=>⟨fun _=>⟨_,qzb (.rfl _),(orK hK).1 h⟩,fun h'=>absurd (h.symm.trans h') (by decide)⟩,fun h=>?_⟩
 replace hK:=(orK hK).2 h;clear h
 refine⟨fun h=>⟨fun _=>⟨_,qzb (.rfl _),(orK hK).1 h⟩,fun h'=>absurd (h.symm.trans h') (by decide)⟩,fun h=>?_⟩
 replace hK:=(orK hK).2 h;clear h
 refine⟨fun h=>⟨fun _=>⟨_,qzb (.rfl _),(orK hK).1 h⟩,fun h'=>absurd (h.symm.trans h') (by decide)⟩,fun h=>?_⟩
 replace hK:=(orK hK).2 h;clear h
 refine⟨fun h=>⟨fun _=>⟨_,qzb (.rfl _),(orK hK).1 h⟩,fun h'=>absurd (h.symm.trans h') (by decide)⟩,fun h=>?_⟩
 replace hK:=(orK hK).2 h;clear h
 refine⟨fun h=>⟨fun _=>⟨_,qzb (.rfl _),(orK hK).1 h⟩,fun h'=>absurd (h.symm.trans h') (by decide)⟩,fun h=>?_⟩
 replace hK:=(orK hK).2 h;clear h
 refine⟨fun h=>⟨fun _=>⟨_,qzb (.rfl _),(orK hK).1 h⟩,fun h'=>absurd (h.symm.trans h') (by decide)⟩,fun h=>?_⟩
 replace hK:=(orK hK).2 h;clear h
 refine⟨fun h=>⟨fun _=>⟨_,qzb (.rfl _),(orK hK).1 h⟩,fun h'=>absurd (h.symm.trans h') (by decide)⟩,fun h=>?_⟩
 replace hK:=(orK hK).2 h;clear h
 refine⟨fun h=>⟨fun _=>⟨_,qzb (.rfl _),(orK hK).1 h⟩,fun h'=>absurd (h.symm.trans h') (by decide)⟩,fun h=>?_⟩
 replace hK:=(orK hK).2 h;clear h
 refine⟨fun h=>⟨fun _=>⟨_,qzb (.rfl _),(orK hK).1 h⟩,fun h'=>absurd (h.symm.trans h') (by decide)⟩,fun h=>?_⟩
 replace hK:=(orK hK).2 h;clear h
 refine⟨fun h=>⟨fun _=>⟨_,qzb (.rfl _),(orK hK).1 h⟩,fun h'=>absurd (h.symm.trans h') (by decide)⟩,fun h=>?_⟩
 replace hK:=(orK hK).2 h;clear h
 refine⟨fun h=>⟨fun _=>⟨_,qzb (.rfl _),(orK hK).1 h⟩,fun h'=>absurd (h.symm.trans h') (by decide)⟩,fun h=>?_⟩
 replace hK:=(orK hK).2 h;clear h
 refine⟨fun h=>⟨fun _=>⟨_,qzb (.rfl _),(orK hK).1 h⟩,fun h'=>absurd (h.symm.trans h') (by decide)⟩,fun h=>?_⟩
 replace hK:=(orK hK).2 h;clear h
 refine⟨fun h=>⟨fun _=>⟨_,qzb (.rfl _),(orK hK).1 h⟩,fun h'=>absurd (h.symm.trans h') (by decide)⟩,fun h=>?_⟩
 replace hK:=(orK hK).2 h;clear h
 refine⟨fun h=>⟨fun _=>⟨_,qzb (.rfl _),(orK hK).1 h⟩,fun h'=>absurd (h.symm.trans h') (by decide)⟩,fun h=>?_⟩
 replace hK:=(orK hK).2 h;clear h
 refine⟨fun h=>⟨fun _=>⟨_,qzb (.rfl _),(orK hK).1 h⟩,fun h'=>absurd (h.symm.trans h') (by decide)⟩,fun h=>?_⟩
 replace hK:=(orK hK).2 h;clear h
 refine⟨fun h=>⟨fun _=>⟨_,qzb (.rfl _),(orK hK).1 h⟩,fun h'=>absurd (h.symm.trans h') (by decide)⟩,fun h=>?_⟩
 replace hK:=(orK hK).2 h;clear h
 refine⟨fun h=>⟨fun _=>⟨_,qzb (.rfl _),(orK hK).1 h⟩,fun h'=>absurd (h.symm.trans h') (by decide)⟩,fun h=>?_⟩
 replace hK:=(orK hK).2 h;clear h
 refine⟨fun h=>⟨fun _=>⟨_,qzb (.rfl _),(orK hK).1 h⟩,fun h'=>absurd (h.symm.trans h') (by decide)⟩,fun h=>?_⟩
 replace hK:=(orK hK).2 h;clear h
 refine⟨fun h=>⟨fun _=>⟨_,qzb (.rfl _),(orK hK).1 h⟩,fun h'=>absurd (h.symm.trans h') (by decide)⟩,fun h=>?_⟩
 replace hK:=(orK hK).2 h;clear h
 refine⟨fun h=>⟨_,qzb (.rfl _),(orK hK).1 h⟩,fun h=>?_⟩
 replace hK:=(orK hK).2 h;clear h;exact⟨_,qzb (.rfl _),hK⟩
theorem nil_beqz (c:UInt8)(l:Bs):(([]:Bs)==c::l)=false:=rfl
theorem qq0 (k c:UInt8):((c.toNat:Int)==(k.toNat:Int))=(c==k):=by
 rw[Bool.eq_iff_iff];simp only[beq_iff_eq]
 exact⟨fun h=>UInt8.toNat_inj.1 (Int.ofNat_inj.1 h),fun h=>by rw[h]⟩
def rsign:Spec:=fun ys bx Kr _=>∃(l:Bs) (i:Nat),ys=[.d (.st l),.d (.int .i64 i)]/\i<l.length/\l.length<=16777216/\Kr (.d (.int .i64 ((Lg.sign (l.drop i)).length:Nat))) nix none
theorem sign_two {l:Bs}{i:Nat}(h:i<l.length)(h2:i+1<l.length):Lg.sign (l.drop i)=if(l.take (i+2)).drop i==Lg.sArrow then Lg.sArrow else if(l.take (i+2)).drop i==Lg.sLe then Lg.sLe else if(l.take (i+2)).drop i==Lg.sEq2 then Lg.sEq2 else if Lg.signs.contains l[i]then [l[i]]else []:=by
 have e:∀p:Bs,p.length=2->p.isPrefixOf (l.drop i)=((l.take (i+2)).drop i==p):=by
  intro p hp
  rw[Bool.eq_iff_iff,beq_iff_eq,List.isPrefixOf_iff_prefix,List.prefix_iff_eq_take,hp,List.drop_take,show i+2-i=2 by omega]
  exact⟨fun h=>h.symm,fun h=>h.symm⟩
 unfold Lg.sign;rw[e _ rfl,e _ rfl,e _ rfl];rw[List.drop_eq_getElem_cons h]
theorem sign_last {l:Bs}{i:Nat}(h:i<l.length)(h2:l.length<=i+1):Lg.sign (l.drop i)=if Lg.signs.contains l[i]then [l[i]]else []:=by
 have e:∀p:Bs,p.length=2->p.isPrefixOf (l.drop i)=false:=by
  intro p hp;rw[Bool.eq_false_iff];intro h3;have:=(List.isPrefixOf_iff_prefix.1 h3).length_le;rw[List.length_drop]at this;omega
 unfold Lg.sign;rw[e _ rfl,e _ rfl,e _ rfl,if_neg (by decide),if_neg (by decide),if_neg (by decide)];rw[List.drop_eq_getElem_cons h]
theorem rsign_OK:OK Tryz.prog 140 rsign:=by
 refine fn_OK' qzu (E:=EV) (sp:=spL []) qzt qzl (OKs.ok trivial) func140 rfl ntmps140 results140 call140 [] none ?_;rintro ys bx Kr Kp ⟨l,i,rfl,hi,hl,hK⟩
 refine⟨[],rfl,trivial,by simp,?_⟩
 simp only[go_sem]
 refine⟨by omega,fun h=>?_,fun h=>?_⟩
 · have h2:i+1<l.length:=by have:=lF h;omega
   rw[sign_two hi h2]at hK;have hx:List.drop (↑i:Int).toNat (List.take ((↑i:Int)+2).toNat l)=(l.take (i+2)).drop i:=rfl;rw[hx]
   refine⟨by omega,by omega,by omega,by omega,by omega,?_⟩
   revert hK
   generalize(l.take (i+2)).drop i=x
   intro hK
   refine⟨fun h=>?_,fun h=>⟨fun h'=>?_,fun h'=>⟨fun h2=>?_,fun h2=>?_⟩⟩⟩
   ·rw[if_pos (show(x==Lg.sArrow)=true from h)]at hK;exact⟨_,qzb (.rfl _),hK⟩
   ·rw[if_neg (show¬(x==Lg.sArrow)=true by rw[show(x==Lg.sArrow)=false from h];decide),if_pos (show(x==Lg.sLe)=true from h')]at hK;exact⟨_,qzb (.rfl _),hK⟩
   ·rw[if_neg (show¬(x==Lg.sArrow)=true by rw[show(x==Lg.sArrow)=false from h];decide),if_neg (show¬(x==Lg.sLe)=true by rw[show(x==Lg.sLe)=false from h'];decide),if_pos (show(x==Lg.sEq2)=true from h2)]at hK;exact⟨_,qzb (.rfl _),hK⟩
   · rw [if_neg (show¬(x==Lg.sArrow)=true by rw[show(x==Lg.sArrow)=false from h];decide),if_neg (show¬(x==Lg.sLe)=true by rw[show(x==Lg.sLe)=false from h'];decide),if_neg (show¬(x==Lg.sEq2)=true by rw[show(x==Lg.sEq2)=false from h2];decide)]at hK
     refine⟨by omega,by omega,?_⟩
     rw[lA,lD hi]
     revert hK
     generalize l[i]=c
     intro hK;have e0:((c.toNat:Int)==123)=(c==123):=qq0 123 c;have e1:((c.toNat:Int)==125)=(c==125):=qq0 125 c;have e2:((c.toNat:Int)==40)=(c==40):=qq0 40 c;have e3:((c.toNat:Int)==41)=(c==41):=qq0 41 c;have e4:((c.toNat:Int)==91)=(c==91):=qq0 91 c;have e5:((c.toNat:Int)==93)=(c==93):=qq0 93 c;have e6:((c.toNat:Int)==44)=(c==44):=qq0 44 c;have e7:((c.toNat:Int)==58)=(c==58):=qq0 58 c;have e8:((c.toNat:Int)==59)=(c==59):=qq0 59 c;have e9:((c.toNat:Int)==61)=(c==61):=qq0 61 c;have e10:((c.toNat:Int)==43)=(c==43):=qq0 43 c;have e11:((c.toNat:Int)==45)=(c==45):=qq0 45 c;have e12:((c.toNat:Int)==38)=(c==38):=qq0 38 c;have e13:((c.toNat:Int)==60)=(c==60):=qq0 60 c
     cases h0:(c==123)with
     |true=>
      simp only[e0,h0,bne_self_eq_false,beq_self_eq_true,Bool.false_eq_true,Bool.true_eq_false,false_implies,true_implies,true_and,and_true,eq_self,go_sem]
      rw[show(Lg.signs.contains c)=true by simp only[Lg.signs,List.contains_cons,List.contains_nil,h0,Bool.true_or,Bool.or_true,Bool.false_or]]at hK
      exact⟨_,qzb (.rfl _),hK⟩
     |false=>
      cases h1:(c==125)with
      |true=>
       simp only[e0,h0,e1,h1,bne_self_eq_false,beq_self_eq_true,Bool.false_eq_true,Bool.true_eq_false,false_implies,true_implies,true_and,and_true,eq_self,go_sem]
       rw[show(Lg.signs.contains c)=true by simp only[Lg.signs,List.contains_cons,List.contains_nil,h0,h1,Bool.true_or,Bool.or_true,Bool.false_or]]at hK
       exact⟨_,qzb (.rfl _),hK⟩
      |false=>
       cases h2:(c==40)with
       |true=>
        simp only[e0,h0,e1,h1,e2,h2,bne_self_eq_false,beq_self_eq_true,Bool.false_eq_true,Bool.true_eq_false,false_implies,true_implies,true_and,and_true,eq_self,go_sem]
        rw[show(Lg.signs.contains c)=true by simp only[Lg.signs,List.contains_cons,List.contains_nil,h0,h1,h2,Bool.true_or,Bool.or_true,Bool.false_or]]at hK
        exact⟨_,qzb (.rfl _),hK⟩
       |false=>
        cases h3:(c==41)with
        |true=>
         simp only[e0,h0,e1,h1,e2,h2,e3,h3,bne_self_eq_false,beq_self_eq_true,Bool.false_eq_true,Bool.true_eq_false,false_implies,true_implies,true_and,and_true,eq_self,go_sem]
         rw[show(Lg.signs.contains c)=true by simp only[Lg.signs,List.contains_cons,List.contains_nil,h0,h1,h2,h3,Bool.true_or,Bool.or_true,Bool.false_or]]at hK
         exact⟨_,qzb (.rfl _),hK⟩
        |false=>
         cases h4:(c==91)with
         |true=>
          simp only[e0,h0,e1,h1,e2,h2,e3,h3,e4,h4,bne_self_eq_false,beq_self_eq_true,Bool.false_eq_true,Bool.true_eq_false,false_implies,true_implies,true_and,and_true,eq_self,go_sem]
          rw[show(Lg.signs.contains c)=true by simp only[Lg.signs,List.contains_cons,List.contains_nil,h0,h1,h2,h3,h4,Bool.true_or,Bool.or_true,Bool.false_or]]at hK
          exact⟨_,qzb (.rfl _),hK⟩
         |false=>
          cases h5:(c==93)with
          |true=>
           simp only[e0,h0,e1,h1,e2,h2,e3,h3,e4,h4,e5,h5,bne_self_eq_false,beq_self_eq_true,Bool.false_eq_true,Bool.true_eq_false,false_implies,true_implies,true_and,and_true,eq_self,go_sem]
           rw[show(Lg.signs.contains c)=true by simp only[Lg.signs,List.contains_cons,List.contains_nil,h0,h1,h2,h3,h4,h5,Bool.true_or,Bool.or_true,Bool.false_or]]at hK
           exact⟨_,qzb (.rfl _),hK⟩
          |false=>
           cases h6:(c==44)with
           |true=>
            simp only[e0,h0,e1,h1,e2,h2,e3,h3,e4,h4,e5,h5,e6,h6,bne_self_eq_false,beq_self_eq_true,Bool.false_eq_true,Bool.true_eq_false,false_implies,true_implies,true_and,and_true,eq_self,go_sem]
            rw[show(Lg.signs.contains c)=true by simp only[Lg.signs,List.contains_cons,List.contains_nil,h0,h1,h2,h3,h4,h5,h6,Bool.true_or,Bool.or_true,Bool.false_or]]at hK
            exact⟨_,qzb (.rfl _),hK⟩
           |false=>
            cases h7:(c==58)with
            |true=>
             simp only[e0,h0,e1,h1,e2,h2,e3,h3,e4,h4,e5,h5,e6,h6,e7,h7,bne_self_eq_false,beq_self_eq_true,Bool.false_eq_true,Bool.true_eq_false,false_implies,true_implies,true_and,and_true,eq_self,go_sem]
             rw[show(Lg.signs.contains c)=true by simp only[Lg.signs,List.contains_cons,List.contains_nil,h0,h1,h2,h3,h4,h5,h6,h7,Bool.true_or,Bool.or_true,Bool.false_or]]at hK
             exact⟨_,qzb (.rfl _),hK⟩
            |false=>
             cases h8:(c==59)with
             |true=>
              simp only[e0,h0,e1,h1,e2,h2,e3,h3,e4,h4,e5,h5,e6,h6,e7,h7,e8,h8,bne_self_eq_false,beq_self_eq_true,Bool.false_eq_true,Bool.true_eq_false,false_implies,true_implies,true_and,and_true,eq_self,go_sem]
              rw[show(Lg.signs.contains c)=true by simp only[Lg.signs,List.contains_cons,List.contains_nil,h0,h1,h2,h3,h4,h5,h6,h7,h8,Bool.true_or,Bool.or_true,Bool.false_or]]at hK
              exact⟨_,qzb (.rfl _),hK⟩
             |false=>
              cases h9:(c==61)with
              |true=>
               simp only[e0,h0,e1,h1,e2,h2,e3,h3,e4,h4,e5,h5,e6,h6,e7,h7,e8,h8,e9,h9,bne_self_eq_false,beq_self_eq_true,Bool.false_eq_true,Bool.true_eq_false,false_implies,true_implies,true_and,and_true,eq_self,go_sem]
               rw[show(Lg.signs.contains c)=true by simp only[Lg.signs,List.contains_cons,List.contains_nil,h0,h1,h2,h3,h4,h5,h6,h7,h8,h9,Bool.true_or,Bool.or_true,Bool.false_or]]at hK
               exact⟨_,qzb (.rfl _),hK⟩
              |false=>
               cases h10:(c==43)with
               |true=>
                simp only[e0,h0,e1,h1,e2,h2,e3,h3,e4,h4,e5,h5,e6,h6,e7,h7,e8,h8,e9,h9,e10,h10,bne_self_eq_false,beq_self_eq_true,Bool.false_eq_true,Bool.true_eq_false,false_implies,true_implies,true_and,and_true,eq_self,go_sem]
                rw[show(Lg.signs.contains c)=true by simp only[Lg.signs,List.contains_cons,List.contains_nil,h0,h1,h2,h3,h4,h5,h6,h7,h8,h9,h10,Bool.true_or,Bool.or_true,Bool.false_or]]at hK
                exact⟨_,qzb (.rfl _),hK⟩
               |false=>
                cases h11:(c==45)with
                |true=>
                 simp only[e0,h0,e1,h1,e2,h2,e3,h3,e4,h4,e5,h5,e6,h6,e7,h7,e8,h8,e9,h9,e10,h10,e11,h11,bne_self_eq_false,beq_self_eq_true,Bool.false_eq_true,Bool.true_eq_false,false_implies,true_implies,true_and,and_true,eq_self,go_sem]
                 rw[show(Lg.signs.contains c)=true by simp only[Lg.signs,List.contains_cons,List.contains_nil,h0,h1,h2,h3,h4,h5,h6,h7,h8,h9,h10,h11,Bool.true_or,Bool.or_true,Bool.false_or]]at hK
                 exact⟨_,qzb (.rfl _),hK⟩
                |false=>
                 cases h12:(c==38)with
                 |true=>
                  simp only[e0,h0,e1,h1,e2,h2,e3,h3,e4,h4,e5,h5,e6,h6,e7,h7,e8,h8,e9,h9,e10,h10,e11,h11,e12,h12,bne_self_eq_false,beq_self_eq_true,Bool.false_eq_true,Bool.true_eq_false,false_implies,true_implies,true_and,and_true,eq_self,go_sem]
                  rw[show(Lg.signs.contains c)=true by simp only[Lg.signs,List.contains_cons,List.contains_nil,h0,h1,h2,h3,h4,h5,h6,h7,h8,h9,h10,h11,h12,Bool.true_or,Bool.or_true,Bool.false_or]]at hK
                  exact⟨_,qzb (.rfl _),hK⟩
                 |false=>
                  cases h13:(c==60)with
                  |true=>
                   simp only[e0,h0,e1,h1,e2,h2,e3,h3,e4,h4,e5,h5,e6,h6,e7,h7,e8,h8,e9,h9,e10,h10,e11,h11,e12,h12,e13,h13,bne_self_eq_false,beq_self_eq_true,Bool.false_eq_true,Bool.true_eq_false,false_implies,true_implies,true_and,and_true,eq_self,go_sem]
                   rw[show(Lg.signs.contains c)=true by simp only[Lg.signs,List.contains_cons,List.contains_nil,h0,h1,h2,h3,h4,h5,h6,h7,h8,h9,h10,h11,h12,h13,Bool.true_or,Bool.or_true,Bool.false_or]]at hK
                   exact⟨_,qzb (.rfl _),hK⟩
                  |false=>
                   simp only[e0,h0,e1,h1,e2,h2,e3,h3,e4,h4,e5,h5,e6,h6,e7,h7,e8,h8,e9,h9,e10,h10,e11,h11,e12,h12,e13,h13,bne_self_eq_false,beq_self_eq_true,Bool.false_eq_true,Bool.true_eq_false,false_implies,true_implies,true_and,and_true,eq_self,go_sem]
                   rw[show(Lg.signs.contains c)=false by simp only[Lg.signs,List.contains_cons,List.contains_nil,h0,h1,h2,h3,h4,h5,h6,h7,h8,h9,h10,h11,h12,h13,Bool.or_false]]at hK
                   exact⟨_,qzb (.rfl _),hK⟩
 · have h2:l.length<=i+1:=by have:=lG h;omega
   rw[sign_last hi h2]at hK;simp only[nil_beqz,bne_self_eq_false,beq_self_eq_true,Bool.false_eq_true,Bool.true_eq_false,false_implies,true_implies,true_and,and_true,eq_self,go_sem]
   refine⟨by omega,by omega,?_⟩
   rw[lA,lD hi]
   revert hK
   generalize l[i]=c
   intro hK;have e0:((c.toNat:Int)==123)=(c==123):=qq0 123 c;have e1:((c.toNat:Int)==125)=(c==125):=qq0 125 c;have e2:((c.toNat:Int)==40)=(c==40):=qq0 40 c;have e3:((c.toNat:Int)==41)=(c==41):=qq0 41 c;have e4:((c.toNat:Int)==91)=(c==91):=qq0 91 c;have e5:((c.toNat:Int)==93)=(c==93):=qq0 93 c;have e6:((c.toNat:Int)==44)=(c==44):=qq0 44 c;have e7:((c.toNat:Int)==58)=(c==58):=qq0 58 c;have e8:((c.toNat:Int)==59)=(c==59):=qq0 59 c;have e9:((c.toNat:Int)==61)=(c==61):=qq0 61 c;have e10:((c.toNat:Int)==43)=(c==43):=qq0 43 c;have e11:((c.toNat:Int)==45)=(c==45):=qq0 45 c;have e12:((c.toNat:Int)==38)=(c==38):=qq0 38 c;have e13:((c.toNat:Int)==60)=(c==60):=qq0 60 c
   cases h0:(c==123)with
   |true=>
    simp only[e0,h0,bne_self_eq_false,beq_self_eq_true,Bool.false_eq_true,Bool.true_eq_false,false_implies,true_implies,true_and,and_true,eq_self,go_sem]
    rw[show(Lg.signs.contains c)=true by simp only[Lg.signs,List.contains_cons,List.contains_nil,h0,Bool.true_or,Bool.or_true,Bool.false_or]]at hK
    exact⟨_,qzb (.rfl _),hK⟩
   |false=>
    cases h1:(c==125)with
    |true=>
     simp only[e0,h0,e1,h1,bne_self_eq_false,beq_self_eq_true,Bool.false_eq_true,Bool.true_eq_false,false_implies,true_implies,true_and,and_true,eq_self,go_sem]
     rw[show(Lg.signs.contains c)=true by simp only[Lg.signs,List.contains_cons,List.contains_nil,h0,h1,Bool.true_or,Bool.or_true,Bool.false_or]]at hK
     exact⟨_,qzb (.rfl _),hK⟩
    |false=>
     cases h2:(c==40)with
     |true=>
      simp only[e0,h0,e1,h1,e2,h2,bne_self_eq_false,beq_self_eq_true,Bool.false_eq_true,Bool.true_eq_false,false_implies,true_implies,true_and,and_true,eq_self,go_sem]
      rw[show(Lg.signs.contains c)=true by simp only[Lg.signs,List.contains_cons,List.contains_nil,h0,h1,h2,Bool.true_or,Bool.or_true,Bool.false_or]]at hK
      exact⟨_,qzb (.rfl _),hK⟩
     |false=>
      cases h3:(c==41)with
      |true=>
       simp only[e0,h0,e1,h1,e2,h2,e3,h3,bne_self_eq_false,beq_self_eq_true,Bool.false_eq_true,Bool.true_eq_false,false_implies,true_implies,true_and,and_true,eq_self,go_sem]
       rw[show(Lg.signs.contains c)=true by simp only[Lg.signs,List.contains_cons,List.contains_nil,h0,h1,h2,h3,Bool.true_or,Bool.or_true,Bool.false_or]]at hK
       exact⟨_,qzb (.rfl _),hK⟩
      |false=>
       cases h4:(c==91)with
       |true=>
        simp only[e0,h0,e1,h1,e2,h2,e3,h3,e4,h4,bne_self_eq_false,beq_self_eq_true,Bool.false_eq_true,Bool.true_eq_false,false_implies,true_implies,true_and,and_true,eq_self,go_sem]
        rw[show(Lg.signs.contains c)=true by simp only[Lg.signs,List.contains_cons,List.contains_nil,h0,h1,h2,h3,h4,Bool.true_or,Bool.or_true,Bool.false_or]]at hK
        exact⟨_,qzb (.rfl _),hK⟩
       |false=>
        cases h5:(c==93)with
        |true=>
         simp only[e0,h0,e1,h1,e2,h2,e3,h3,e4,h4,e5,h5,bne_self_eq_false,beq_self_eq_true,Bool.false_eq_true,Bool.true_eq_false,false_implies,true_implies,true_and,and_true,eq_self,go_sem]
         rw[show(Lg.signs.contains c)=true by simp only[Lg.signs,List.contains_cons,List.contains_nil,h0,h1,h2,h3,h4,h5,Bool.true_or,Bool.or_true,Bool.false_or]]at hK
         exact⟨_,qzb (.rfl _),hK⟩
        |false=>
         cases h6:(c==44)with
         |true=>
          simp only[e0,h0,e1,h1,e2,h2,e3,h3,e4,h4,e5,h5,e6,h6,bne_self_eq_false,beq_self_eq_true,Bool.false_eq_true,Bool.true_eq_false,false_implies,true_implies,true_and,and_true,eq_self,go_sem]
          rw[show(Lg.signs.contains c)=true by simp only[Lg.signs,List.contains_cons,List.contains_nil,h0,h1,h2,h3,h4,h5,h6,Bool.true_or,Bool.or_true,Bool.false_or]]at hK
          exact⟨_,qzb (.rfl _),hK⟩
         |false=>
          cases h7:(c==58)with
          |true=>
           simp only[e0,h0,e1,h1,e2,h2,e3,h3,e4,h4,e5,h5,e6,h6,e7,h7,bne_self_eq_false,beq_self_eq_true,Bool.false_eq_true,Bool.true_eq_false,false_implies,true_implies,true_and,and_true,eq_self,go_sem]
           rw[show(Lg.signs.contains c)=true by simp only[Lg.signs,List.contains_cons,List.contains_nil,h0,h1,h2,h3,h4,h5,h6,h7,Bool.true_or,Bool.or_true,Bool.false_or]]at hK
           exact⟨_,qzb (.rfl _),hK⟩
          |false=>
           cases h8:(c==59)with
           |true=>
            simp only[e0,h0,e1,h1,e2,h2,e3,h3,e4,h4,e5,h5,e6,h6,e7,h7,e8,h8,bne_self_eq_false,beq_self_eq_true,Bool.false_eq_true,Bool.true_eq_false,false_implies,true_implies,true_and,and_true,eq_self,go_sem]
            rw[show(Lg.signs.contains c)=true by simp only[Lg.signs,List.contains_cons,List.contains_nil,h0,h1,h2,h3,h4,h5,h6,h7,h8,Bool.true_or,Bool.or_true,Bool.false_or]]at hK
            exact⟨_,qzb (.rfl _),hK⟩
           |false=>
            cases h9:(c==61)with
            |true=>
             simp only[e0,h0,e1,h1,e2,h2,e3,h3,e4,h4,e5,h5,e6,h6,e7,h7,e8,h8,e9,h9,bne_self_eq_false,beq_self_eq_true,Bool.false_eq_true,Bool.true_eq_false,false_implies,true_implies,true_and,and_true,eq_self,go_sem]
             rw[show(Lg.signs.contains c)=true by simp only[Lg.signs,List.contains_cons,List.contains_nil,h0,h1,h2,h3,h4,h5,h6,h7,h8,h9,Bool.true_or,Bool.or_true,Bool.false_or]]at hK
             exact⟨_,qzb (.rfl _),hK⟩
            |false=>
             cases h10:(c==43)with
             |true=>
              simp only[e0,h0,e1,h1,e2,h2,e3,h3,e4,h4,e5,h5,e6,h6,e7,h7,e8,h8,e9,h9,e10,h10,bne_self_eq_false,beq_self_eq_true,Bool.false_eq_true,Bool.true_eq_false,false_implies,true_implies,true_and,and_true,eq_self,go_sem]
              rw[show(Lg.signs.contains c)=true by simp only[Lg.signs,List.contains_cons,List.contains_nil,h0,h1,h2,h3,h4,h5,h6,h7,h8,h9,h10,Bool.true_or,Bool.or_true,Bool.false_or]]at hK
              exact⟨_,qzb (.rfl _),hK⟩
             |false=>
              cases h11:(c==45)with
              |true=>
               simp only[e0,h0,e1,h1,e2,h2,e3,h3,e4,h4,e5,h5,e6,h6,e7,h7,e8,h8,e9,h9,e10,h10,e11,h11,bne_self_eq_false,beq_self_eq_true,Bool.false_eq_true,Bool.true_eq_false,false_implies,true_implies,true_and,and_true,eq_self,go_sem]
               rw[show(Lg.signs.contains c)=true by simp only[Lg.signs,List.contains_cons,List.contains_nil,h0,h1,h2,h3,h4,h5,h6,h7,h8,h9,h10,h11,Bool.true_or,Bool.or_true,Bool.false_or]]at hK
               exact⟨_,qzb (.rfl _),hK⟩
              |false=>
               cases h12:(c==38)with
               |true=>
                simp only[e0,h0,e1,h1,e2,h2,e3,h3,e4,h4,e5,h5,e6,h6,e7,h7,e8,h8,e9,h9,e10,h10,e11,h11,e12,h12,bne_self_eq_false,beq_self_eq_true,Bool.false_eq_true,Bool.true_eq_false,false_implies,true_implies,true_and,and_true,eq_self,go_sem]
                rw[show(Lg.signs.contains c)=true by simp only[Lg.signs,List.contains_cons,List.contains_nil,h0,h1,h2,h3,h4,h5,h6,h7,h8,h9,h10,h11,h12,Bool.true_or,Bool.or_true,Bool.false_or]]at hK
                exact⟨_,qzb (.rfl _),hK⟩
               |false=>
                cases h13:(c==60)with
                |true=>
                 simp only[e0,h0,e1,h1,e2,h2,e3,h3,e4,h4,e5,h5,e6,h6,e7,h7,e8,h8,e9,h9,e10,h10,e11,h11,e12,h12,e13,h13,bne_self_eq_false,beq_self_eq_true,Bool.false_eq_true,Bool.true_eq_false,false_implies,true_implies,true_and,and_true,eq_self,go_sem]
                 rw[show(Lg.signs.contains c)=true by simp only[Lg.signs,List.contains_cons,List.contains_nil,h0,h1,h2,h3,h4,h5,h6,h7,h8,h9,h10,h11,h12,h13,Bool.true_or,Bool.or_true,Bool.false_or]]at hK
                 exact⟨_,qzb (.rfl _),hK⟩
                |false=>
                 simp only[e0,h0,e1,h1,e2,h2,e3,h3,e4,h4,e5,h5,e6,h6,e7,h7,e8,h8,e9,h9,e10,h10,e11,h11,e12,h12,e13,h13,bne_self_eq_false,beq_self_eq_true,Bool.false_eq_true,Bool.true_eq_false,false_implies,true_implies,true_and,and_true,eq_self,go_sem]
                 rw[show(Lg.signs.contains c)=false by simp only[Lg.signs,List.contains_cons,List.contains_nil,h0,h1,h2,h3,h4,h5,h6,h7,h8,h9,h10,h11,h12,h13,Bool.or_false]]at hK
                 exact⟨_,qzb (.rfl _),hK⟩
def rone:Spec:=fun ys bx Kr _=>∃(l:Bs) (i:Nat),ys=[.d (.st l),.d (.int .i64 i)]/\i<l.length/\l.length<=16777216/\
 (∀t,Lg.tokAt i (l.drop i)=.ok t->Kr (.tup [.d (tokD t),.d (.int .i64 0)]) nix none)/\(∀c,Lg.tokAt i (l.drop i)=.error c->Kr (.tup [.d (tokD ⟨0,[],0,0⟩),.d (.int .i64 c)]) nix none)
theorem zq0 {c:UInt8}(h:Lg.zzz c=true):Lg.zzb c=false:=by
 unfold Lg.zzz at h;unfold Lg.zzb;simp only[Bool.or_eq_true,Bool.and_eq_true,decide_eq_true_eq,beq_iff_eq]at h;rw[Bool.and_eq_false_iff]
 rcases h with⟨h1,h2⟩|h
 ·right;exact decide_eq_false (by omega)
 ·right;exact decide_eq_false (by omega)
theorem sign_pre (l:Bs):Lg.sign l<+:l:=by
 unfold Lg.sign;split
 ·rename_i h;exact List.isPrefixOf_iff_prefix.1 h
 · split
   ·rename_i h;exact List.isPrefixOf_iff_prefix.1 h
   · split
     ·rename_i h;exact List.isPrefixOf_iff_prefix.1 h
     · cases l with
       |nil=>exact List.prefix_refl _
       |cons b r=>
        simp only;split
        ·exact⟨r,rfl⟩
        ·exact List.nil_prefix
theorem sign_cut (l:Bs)(i:Nat):(l.take (i+(Lg.sign (l.drop i)).length)).drop i=Lg.sign (l.drop i):=by
 rw[List.drop_take,show i+(Lg.sign (l.drop i)).length-i=(Lg.sign (l.drop i)).length by omega]
 exact(List.prefix_iff_eq_take.1 (sign_pre (l.drop i))).symm
theorem dec_snoc (xs:Bs)(c:UInt8):Lg.dec (xs++[c])=Lg.dec xs*10+(c.toNat-48):=by
 unfold Lg.dec;rw[List.foldl_append];rfl
theorem cut_snoc {l:Bs}{i j:Nat}(h:i<=j)(hj:j<l.length):(l.take (j+1)).drop i=(l.take j).drop i++[l[j]]:=by
 rw[List.take_succ_eq_append_getElem hj,List.drop_append_of_le_length (by rw[List.length_take];omega)]
theorem digit48 {c:UInt8}(h:Lg.zzb c=true):48<=c.toNat/\c.toNat<=57:=by
 unfold Lg.zzb at h;simp only[Bool.and_eq_true,decide_eq_true_eq]at h;exact h
theorem hdLetter_at {l:Bs}{j:Nat}(h:j<l.length):Lg.zv1 (l.drop j)=Lg.zzz l[j]:=by
 rw[List.drop_eq_getElem_cons h];rfl
theorem hdLetter_end {l:Bs}{j:Nat}(h:l.length<=j):Lg.zv1 (l.drop j)=false:=by
 rw[List.drop_eq_nil_of_le h];rfl
abbrev ztokC:List LV:=[.d (.int .i64 0),.d (.st []),.d (.int .i64 0),.d (.int .i64 0)]
def numI (l:Bs)(i j:Nat)(n:Int)(g:Bool):Prop:=(g=false/\n=((Lg.dec ((l.take j).drop i):Nat):Int)/\n<=1099511627776)\/(g=true/\1099511627776<Lg.dec ((l.take j).drop i)/\1099511627776<n/\n<=10995116277776)
abbrev numSt (l:Bs)(i j:Nat)(n:Int)(g:Bool):S:=
 ⟨141,put 0 (.d (.st l)) (put 1 (.d (.int .i64 i)) (put 4 (.bp 4 0) (put 6 (.bp 6 0) (put 7 (.d (.int .i64 j)) (put 13 (.d (.int .i64 n)) (put 14 (.d (.bool g)) nix)))))),put 4 ⟨ztokC,170⟩ (put 6 ⟨[.d (.int .i64 0),.d (.st []),.d (.int .i64 0),.d (.int .i64 i)],170⟩ nix),nix⟩
theorem rone_OK:OK Tryz.prog 102 rone:=by
 refine fn_OK' qzu (E:=EV) (sp:=spL [(137,(zzg Lg.zzz)),(138,(zzg Lg.zzb)),(139,keyS),(140,rsign)]) qzt qzl (OKs.ok ⟨rletter_OK,⟨rdigit_OK,⟨risKey_OK,⟨rsign_OK,trivial⟩⟩⟩⟩) func102 rfl ntmps102 results102 call102 [] none ?_;rintro ys bx Kr Kp ⟨l,i,rfl,hi,hl,hok,her⟩
 refine⟨[],rfl,trivial,by simp,?_⟩
 simp only[go_sem]
 refine⟨by omega,by omega,?_⟩
 rw[lA,lD hi];simp only[go_sem];refine⟨l[i],rfl,?_⟩;simp only[go_sem]
 refine⟨by omega,by omega,?_⟩
 rw[lA,lD hi];simp only[go_sem];refine⟨l[i],rfl,?_⟩
 cases hL:Lg.zzz l[i]with
 |true=>
  simp only[go_sem]
  refine qzj (T:={j:Nat //i<=j/\j<=l.length/\runN Lg.qq8 l j=runN Lg.qq8 l i})
   (fun j=>⟨141,put 0 (.d (.st l)) (put 1 (.d (.int .i64 i)) (put 4 (.bp 4 0) (put 6 (.bp 6 0) (put 7 (.d (.int .i64 j.1)) nix)))),put 4 ⟨ztokC,170⟩ (put 6 ⟨[.d (.int .i64 0),.d (.st []),.d (.int .i64 0),.d (.int .i64 i)],170⟩ nix),nix⟩) (fun j=>l.length-j.1) ⟨i,Nat.le_refl _,by omega,rfl⟩
   ⟨rfl,sP5 qza,sP2 qza,qza⟩ ?_
  rintro⟨j,hij,hj,hr⟩;dsimp only
  have fin:runN Lg.qq8 l i=j->True:=fun _=>trivial
  simp only[go_sem]
  refine⟨fun h=>?_,fun h=>?_⟩
  · have hlt:j<l.length:=by have:=lF h;omega
    refine⟨by omega,by omega,?_⟩
    rw[lA,lD hlt];simp only[go_sem];refine⟨l[j],rfl,?_⟩;simp only[go_sem]
    refine⟨by omega,by omega,?_⟩
    rw[lA,lD hlt];simp only[go_sem];refine⟨l[j],rfl,?_⟩
    cases hw:Lg.qq8 l[j]with
    |true=>
     have e1:=qw5 hlt hw
     have hnx:∃t':{j:Nat //i<=j/\j<=l.length/\runN Lg.qq8 l j=runN Lg.qq8 l i},t'.1=j+1:=⟨⟨j+1,by omega,hlt,by rw[<-e1,hr]⟩,rfl⟩
     cases hl1:Lg.zzz l[j]with
     |true=>
      simp only[go_sem]
      exact⟨by omega,⟨j+1,by omega,hlt,by rw[<-e1,hr]⟩,⟨rfl,sP5 qza,sP2 qza,qza⟩,by show l.length-(j+1)<l.length-j;omega⟩
     |false=>
      have hd1:Lg.zzb l[j]=true:=by unfold Lg.qq8 at hw;rw[hl1,Bool.false_or]at hw;exact hw
      simp only[hd1,go_sem]
      exact⟨by omega,⟨j+1,by omega,hlt,by rw[<-e1,hr]⟩,⟨rfl,sP5 qza,sP2 qza,qza⟩,by show l.length-(j+1)<l.length-j;omega⟩
    |false=>
     have hl1:Lg.zzz l[j]=false:=by unfold Lg.qq8 at hw;rw[Bool.or_eq_false_iff]at hw;exact hw.1
     have hd1:Lg.zzb l[j]=false:=by unfold Lg.qq8 at hw;rw[Bool.or_eq_false_iff]at hw;exact hw.2
     have hend:runN Lg.qq8 l i=j:=by rw[<-hr,qvz hlt hw]
     simp only[hl1,hd1,go_sem];have hnd:Lg.zzb l[i]=false:=zq0 hL;have htk:=qkn hi hnd hL;rw[hend]at htk
     have hlen:((l.take j).drop i).length=j-i:=by rw[List.length_drop,List.length_take];omega
     refine⟨by omega,by omega,by omega,by omega,?_⟩
     have hx:List.drop (↑i:Int).toNat (List.take (↑j:Int).toNat l)=(l.take j).drop i:=rfl;rw[hx]
     revert htk hlen
     generalize(l.take j).drop i=x
     intro htk hlen
     refine⟨fun h=>?_,fun h=>?_⟩
     ·rw[if_pos (by have:=lF h;omega)]at htk;exact⟨_,.cons (.rfl _) (.cons (.rfl _) .nil),her _ htk⟩
     · rw[if_neg (by have:=lG h;omega)]at htk;refine⟨x,rfl,?_⟩;simp only[go_sem]
       refine⟨fun h=>?_,fun h=>?_⟩
       ·rw[if_pos h]at htk;exact⟨_,.cons (.rfl _) (.cons (.rfl _) .nil),hok _ htk⟩
       ·rw[if_neg (by rw[h];decide)]at htk;exact⟨_,.cons (.rfl _) (.cons (.rfl _) .nil),hok _ htk⟩
  · have hj2:j=l.length:=by have:=lG h;omega
    have hend:runN Lg.qq8 l i=j:=by rw[<-hr,zzn (by omega)]
    have hnd:Lg.zzb l[i]=false:=zq0 hL;have htk:=qkn hi hnd hL;rw[hend]at htk
    have hlen:((l.take j).drop i).length=j-i:=by rw[List.length_drop,List.length_take];omega
    refine⟨by omega,by omega,by omega,by omega,?_⟩
    have hx:List.drop (↑i:Int).toNat (List.take (↑j:Int).toNat l)=(l.take j).drop i:=rfl;rw[hx]
    revert htk hlen
    generalize(l.take j).drop i=x
    intro htk hlen
    refine⟨fun h=>?_,fun h=>?_⟩
    ·rw[if_pos (by have:=lF h;omega)]at htk;exact⟨_,.cons (.rfl _) (.cons (.rfl _) .nil),her _ htk⟩
    · rw[if_neg (by have:=lG h;omega)]at htk;refine⟨x,rfl,?_⟩;simp only[go_sem]
      refine⟨fun h=>?_,fun h=>?_⟩
      ·rw[if_pos h]at htk;exact⟨_,.cons (.rfl _) (.cons (.rfl _) .nil),hok _ htk⟩
      ·rw[if_neg (by rw[h];decide)]at htk;exact⟨_,.cons (.rfl _) (.cons (.rfl _) .nil),hok _ htk⟩
 |false=>
  cases hD:Lg.zzb l[i]with
  |true=>
   simp only[go_sem]
   refine qzj (T:={q:Nat×Int×Bool //i<=q.1/\q.1<=l.length/\runN Lg.zzb l q.1=runN Lg.zzb l i/\numI l i q.1 q.2.1 q.2.2})
    (fun q=>numSt l i q.1.1 q.1.2.1 q.1.2.2) (fun q=>l.length-q.1.1) ⟨(i,0,false),Nat.le_refl _,by show i<=l.length;omega,rfl,.inl ⟨rfl,by show(0:Int)=((Lg.dec ((l.take i).drop i):Nat):Int);rw[List.drop_eq_nil_of_le (by rw[List.length_take];omega)];rfl,by show(0:Int)<=1099511627776;decide⟩⟩
    ⟨rfl,sP6 (sP1 qza),sP2 qza,qza⟩ ?_
   rintro⟨⟨j,n,g⟩,hij0,hj0,hr0,hn0⟩;have hij:i<=j:=hij0;have hj:j<=l.length:=hj0;have hr:runN Lg.zzb l j=runN Lg.zzb l i:=hr0;have hn:numI l i j n g:=hn0;dsimp only[numSt];clear hij0 hj0 hr0 hn0;simp only[go_sem]
   refine⟨fun h=>?_,fun h=>?_⟩
   · have hlt:j<l.length:=by have:=lF h;omega
     refine⟨by omega,by omega,?_⟩
     rw[lA,lD hlt];simp only[go_sem];refine⟨l[j],rfl,?_⟩;simp only[go_sem]
     cases hd:Lg.zzb l[j]with
     |true=>
      obtain⟨c1,c2⟩:=digit48 hd;have e1:=qw5 hlt hd
      rcases hn with⟨rfl,hnd,hnm⟩|⟨rfl,hnd,hn1,hn2⟩
      · have hle:decide (n<=1099511627776)=true:=decide_eq_true hnm;simp only[hle,go_sem]
        refine⟨by omega,by omega,by omega,?_⟩
        rw[lA,lD hlt];simp only[go_sem]
        have hd2:Lg.dec ((l.take (j+1)).drop i)=Lg.dec ((l.take j).drop i)*10+(l[j].toNat-48):=by rw[cut_snoc hij hlt,dec_snoc]
        refine⟨by omega,by omega,by omega,fun h=>?_,fun h=>?_⟩
        · have h':=lF h
          exact⟨by omega,⟨(j+1,n*10+(↑l[j].toNat-48),true),by show i<=j+1;omega,hlt,by show runN Lg.zzb l (j+1)=_;rw[<-e1,hr],.inr ⟨rfl,by show _<Lg.dec ((l.take (j+1)).drop i);rw[hd2];omega,h',by show n*10+(↑l[j].toNat-48)<=_;omega⟩⟩,⟨rfl,sP6 (sP1 qza),sP2 qza,qza⟩,by show l.length-(j+1)<l.length-j;omega⟩
        · have h':=lG h
          exact⟨by omega,⟨(j+1,n*10+(↑l[j].toNat-48),false),by show i<=j+1;omega,hlt,by show runN Lg.zzb l (j+1)=_;rw[<-e1,hr],.inl ⟨rfl,by show n*10+(↑l[j].toNat-48)=((Lg.dec ((l.take (j+1)).drop i):Nat):Int);rw[hd2];omega,by show n*10+(↑l[j].toNat-48)<=_;omega⟩⟩,⟨rfl,sP6 (sP1 qza),sP2 qza,qza⟩,by show l.length-(j+1)<l.length-j;omega⟩
      · have hle:decide (n<=1099511627776)=false:=decide_eq_false (by omega);have hgt:decide (1099511627776<n)=true:=decide_eq_true hn1;simp only[hle,hgt,go_sem]
        have hd2:Lg.dec ((l.take (j+1)).drop i)=Lg.dec ((l.take j).drop i)*10+(l[j].toNat-48):=by rw[cut_snoc hij hlt,dec_snoc]
        exact⟨by omega,⟨(j+1,n,true),by show i<=j+1;omega,hlt,by show runN Lg.zzb l (j+1)=_;rw[<-e1,hr],.inr ⟨rfl,by show _<Lg.dec ((l.take (j+1)).drop i);rw[hd2];omega,hn1,hn2⟩⟩,⟨rfl,sP6 (sP1 qza),sP2 qza,qza⟩,by show l.length-(j+1)<l.length-j;omega⟩
     |false=>
      simp only[go_sem]
      have hend:runN Lg.zzb l i=j:=by rw[<-hr,qvz hlt hd]
      have htk:=qvs hi hD;rw[hend,hdLetter_at hlt]at htk
      refine⟨fun _=>?_,fun h'=>absurd (h.symm.trans h') (by decide)⟩
      refine⟨by omega,by omega,?_⟩
      rw[lA,lD hlt];simp only[go_sem];refine⟨l[j],rfl,?_⟩
      rcases hn with⟨rfl,hnd,hnm⟩|⟨rfl,hnd,hn1,hn2⟩
      · have hdec:decide (1099511627776<Lg.dec ((l.take j).drop i))=false:=decide_eq_false (by omega);rw[hdec,Bool.false_or]at htk
        cases hb:Lg.zzz l[j]with
        |true=>
         rw[hb,Bool.or_true,if_pos rfl]at htk;simp only[go_sem];exact⟨_,.cons (.rfl _) (.cons (.rfl _) .nil),her _ htk⟩
        |false=>
         rw[hb,Bool.or_false]at htk;simp only[go_sem];have h48:((l[i].toNat:Int)==48)=(l[i]==48):=qq0 48 l[i];have hq:(l[i]?==some 48)=(l[i]==48):=hd48 hi;rw[hq]at htk
         refine⟨by omega,by omega,?_⟩
         rw[lA,lD hi]
         cases hz:l[i]==48 with
         |true=>
          simp only[h48,hz,go_sem];rw[hz,Bool.and_true]at htk
          refine⟨by omega,fun h=>?_,fun h=>?_⟩
          ·rw[decide_eq_true (show 1<j-i by have:=lF h;omega),if_pos (by simp)]at htk;exact⟨_,.cons (.rfl _) (.cons (.rfl _) .nil),her _ htk⟩
          · rw[decide_eq_false (show¬1<j-i by have:=lG h;omega),if_neg (by simp)]at htk;subst hnd
            refine⟨by omega,by omega,by omega,by omega,?_⟩
            exact⟨_,.cons (.rfl _) (.cons (.rfl _) .nil),hok _ htk⟩
         |false=>
          simp only[h48,hz,go_sem];rw[hz,Bool.and_false,if_neg (by simp)]at htk;subst hnd
          refine⟨by omega,by omega,by omega,by omega,?_⟩
          exact⟨_,.cons (.rfl _) (.cons (.rfl _) .nil),hok _ htk⟩
      ·have hdec:decide (1099511627776<Lg.dec ((l.take j).drop i))=true:=decide_eq_true hnd;rw[hdec,Bool.true_or,Bool.true_or,if_pos rfl]at htk;simp only[go_sem];exact⟨_,.cons (.rfl _) (.cons (.rfl _) .nil),her _ htk⟩
   · have hjl:j=l.length:=by have:=lG h;omega
     have hend:runN Lg.zzb l i=j:=by rw[<-hr,zzn (by omega)]
     have htk:=qvs hi hD;rw[hend,hdLetter_end (by omega),Bool.or_false]at htk
     refine⟨fun h'=>absurd (h.symm.trans h') (by decide),fun _=>?_⟩
     rcases hn with⟨rfl,hnd,hnm⟩|⟨rfl,hnd,hn1,hn2⟩
     · have hdec:decide (1099511627776<Lg.dec ((l.take j).drop i))=false:=decide_eq_false (by omega);rw[hdec,Bool.false_or]at htk;simp only[go_sem];have h48:((l[i].toNat:Int)==48)=(l[i]==48):=qq0 48 l[i];have hq:(l[i]?==some 48)=(l[i]==48):=hd48 hi;rw[hq]at htk
       refine⟨by omega,by omega,?_⟩
       rw[lA,lD hi]
       cases hz:l[i]==48 with
       |true=>
        simp only[h48,hz,go_sem];rw[hz,Bool.and_true]at htk
        refine⟨by omega,fun h=>?_,fun h=>?_⟩
        ·rw[decide_eq_true (show 1<j-i by have:=lF h;omega),if_pos (by simp)]at htk;exact⟨_,.cons (.rfl _) (.cons (.rfl _) .nil),her _ htk⟩
        · rw[decide_eq_false (show¬1<j-i by have:=lG h;omega),if_neg (by simp)]at htk;subst hnd
          refine⟨by omega,by omega,by omega,by omega,?_⟩
          exact⟨_,.cons (.rfl _) (.cons (.rfl _) .nil),hok _ htk⟩
       |false=>
        simp only[h48,hz,go_sem];rw[hz,Bool.and_false,if_neg (by simp)]at htk;subst hnd
        refine⟨by omega,by omega,by omega,by omega,?_⟩
        exact⟨_,.cons (.rfl _) (.cons (.rfl _) .nil),hok _ htk⟩
     ·have hdec:decide (1099511627776<Lg.dec ((l.take j).drop i))=true:=decide_eq_true hnd;rw[hdec,Bool.true_or,if_pos rfl]at htk;simp only[go_sem];exact⟨_,.cons (.rfl _) (.cons (.rfl _) .nil),her _ htk⟩
  |false=>
   have htk:=qwj hi hD hL;simp only[go_sem];refine⟨l,i,rfl,hi,hl,?_⟩;have hsl:=zxc (l.drop i);rw[List.length_drop]at hsl;simp only[go_sem]
   refine⟨fun h=>?_,fun h=>?_⟩
   ·have h0:Lg.sign (l.drop i)=[]:=List.eq_nil_of_length_eq_zero (by have:=eq_of_beq h;omega);rw[if_pos h0]at htk;exact⟨_,.cons (.rfl _) (.cons (.rfl _) .nil),her _ htk⟩
   · have h0:¬Lg.sign (l.drop i)=[]:=fun e=>by rw[e]at h;revert h;decide
     rw[if_neg h0]at htk;have hc:List.drop (↑i:Int).toNat (List.take ((↑i:Int)+ ↑(List.length (Lg.sign (List.drop i l)))).toNat l)=Lg.sign (l.drop i):=sign_cut l i
     refine⟨by omega,by omega,by omega,by omega,by omega,?_⟩
     rw[hc];exact⟨_,.cons (.rfl _) (.cons (.rfl _) .nil),hok _ htk⟩
def rtkLV:List Tok->LV
 |[]=>.d (.imm (.slice none 0 0))
 |_::l=>.os 57 4 (l.length+1)
def rtkAr:List Tok->Ar
 |[]=>nix
 |x::l=>put 57 (4,170,(x::l).map tokD) nix
theorem zj8 (l:List Tok)(x:Tok):rtkLV (l++[x])=.os 57 4 (l.length+1):=by
 cases l with
 |nil=>rfl
 |cons y l=>simp[rtkLV]
theorem subm_rtk {x:Tok}{l:List Tok}{f:Ar}(h:f 57=some (4,170,l.map tokD++[tokD x])):subm f (rtkAr (l++[x])):=by
 have e:rtkAr (l++[x])=put 57 (4,170,l.map tokD++[tokD x]) nix:=by
  cases l with
  |nil=>rfl
  |cons y l=>simp[rtkAr]
 rw[e];exact qzd h qza
theorem zww {p:Int}{l:Bs}{c:Int}(h:Lg.tokAt p l=.error c):c≠0:=by
 unfold Lg.tokAt at h;split at h
 ·cases h;decide
 · split at h
   · split at h
     ·cases h;decide
     ·cases h
   · split at h
     · split at h
       ·cases h;decide
       ·cases h
     · split at h
       ·cases h;decide
       ·cases h
theorem zwv {l:Bs}{i:Nat}(hi:i<l.length){t:Tok}(h:Lg.tokAt i (l.drop i)=.ok t):1<=t.text.length/\i+t.text.length<=l.length:=by
 have hrun:∀p:UInt8->Bool,p l[i]=true->1<=((l.drop i).takeWhile p).length/\i+((l.drop i).takeWhile p).length<=l.length:=by
  intro p hp;have h1:=qjy hi hp;have h2:=qk6 (p:=p) (Nat.le_of_lt hi);have h3:=qk5 p l i;omega
 cases hD:Lg.zzb l[i]with
 |true=>
  have:=qvs hi hD;rw[this]at h;split at h
  ·cases h
  ·cases h;rw[qxk];exact hrun _ hD
 |false=>
  cases hL:Lg.zzz l[i]with
  |true=>
   have:=qkn hi hD hL;rw[this]at h;split at h
   ·cases h
   ·cases h;rw[qxk];exact hrun _ (zxl hL)
  |false=>
   have:=qwj hi hD hL;rw[this]at h;split at h
   ·cases h
   · rename_i hne;cases h;have h3:=zxc (l.drop i);rw[List.length_drop]at h3
     refine⟨?_,by show i+(Lg.sign (l.drop i)).length<=l.length;omega⟩
     show 1<=(Lg.sign (l.drop i)).length
     cases e:Lg.sign (l.drop i)with
     |nil=>exact absurd e hne
     |cons _ _=>simp
theorem sign_nokey (l:Bs):Lg.isKey (Lg.sign l)=false:=by
 unfold Lg.sign;split
 ·decide
 · split
   ·decide
   · split
     ·decide
     · cases l with
       |nil=>decide
       |cons b r=>
        simp only;split
        ·simp[Lg.isKey,Lg.keys,Lg.sType,Lg.sFn,Lg.sOwn,Lg.sCell,Lg.zvh,Lg.sLock,Lg.sGuard,Lg.sWhere,Lg.sInt,Lg.sMut,Lg.sFree,Lg.sUnlock,Lg.sIf,Lg.sElse,Lg.sWhile,Lg.sReturn,Lg.sAbort,Lg.sFork,Lg.sNew,Lg.sArray]
        ·decide
theorem tokAt_key {p:Int}{l:Bs}{t:Tok}(h:Lg.tokAt p l=.ok t)(h4:t.kind=4):Lg.isKey t.text=false:=by
 unfold Lg.tokAt at h;split at h
 ·cases h
 · split at h
   · split at h
     ·cases h
     ·cases h;cases h4
   · split at h
     · split at h
       ·cases h
       · cases h;exfalso
         revert h4
         show(if _ then(2:Int)else 1)=4->False
         split<;>decide
     · split at h
       ·cases h
       ·cases h;exact sign_nokey _
theorem zvt:∀(n:Nat) (p:Int) (l:Bs),l.length<=n->∀ts,Lg.lex p l=.ok ts->KeyOk ts
 |n,p,[],_,ts,h=>by
  rw[Lg.lex]at h;cases h;intro t ht h4;simp only[List.mem_cons,List.not_mem_nil,or_false]at ht;subst ht;cases h4
 |0,p,b::r,hn,ts,h=>by simp at hn
 |n+1,p,b::r,hn,ts,h=>by
  simp only[lB]at hn;rw[Lg.lex]at h;split at h
  ·exact zvt n _ r (by omega) ts h
  · split at h
    ·have:=Lg.qwc (· != 10) r;exact zvt n _ _ (by omega) ts h
    · split at h
      ·cases h
      · rename_i t ht;split at h
        ·cases h
        · rename_i ts' hts;cases h;have:=zvt n _ _ (by rw[List.length_drop];omega) ts' hts;intro u hu h4
          rcases List.mem_cons.1 hu with rfl|hu
          ·exact tokAt_key ht h4
          ·exact this u hu h4
theorem toks_key {l:Bs}{ts:List Tok}(h:Lg.toks l=.ok ts):KeyOk ts/\Good ts:=by
 unfold Lg.toks at h;split at h
 ·cases h
 ·exact⟨zvt _ _ l (Nat.le_refl _) ts h,zvu (by omega) h⟩
theorem rtoks_OK:OK Tryz.prog 51 toksS:=by
 refine fn_OK' qzu (E:=EV) (sp:=spL [(102,rone)]) qzt qzl (OKs.ok ⟨rone_OK,trivial⟩) func51 rfl ntmps51 results51 call51 [] none ?_;rintro ys bx Kr Kp ⟨l,rfl,hK0⟩
 refine⟨[],rfl,trivial,by simp,?_⟩
 unfold Lg.toks at hK0;simp only[go_sem]
 refine⟨fun h=>?_,fun h=>?_⟩
 ·rw[if_pos (by have:=lF h;omega)]at hK0;exact⟨_,.cons (.nil 4 false) (.cons (.rfl _) (.cons (.rfl _) .nil)),hK0 (by decide)⟩
 · have hl:l.length<=16384:=by have:=lG h;omega
   rw[if_neg (by omega)]at hK0
   refine qzj (T:={t:List Tok×Nat //t.1.length<=t.2/\t.2<=l.length/\LexQ l Kr t.1 t.2})
    (fun t=>⟨70,put 0 (.d (.st l)) (put 5 (rtkLV t.1.1) (put 6 (.d (.int .i64 t.1.2)) nix)),nix,rtkAr t.1.1⟩) (fun t=>l.length-t.1.2) ⟨([],0),by simp,by omega,?_⟩
    ⟨rfl,sP3 qza,qza,qza⟩ ?_
   · show lexP (Lg.lex 0 l) _ _
     cases hx:Lg.lex 0 l with
     |error p=>obtain⟨a,c⟩:=p;rw[hx]at hK0;refine fun hc=>hK0 hc
     |ok xs=>rw[hx]at hK0;exact hK0 (zvu hl hx)
   rintro⟨⟨acc,i⟩,g1,g2,gK⟩;have h1:acc.length<=i:=g1;have h2:i<=l.length:=g2;have hK:LexQ l Kr acc i:=gK;dsimp only;clear g1 g2 gK
   cases acc with
   |nil=>
    dsimp only[rtkLV,rtkAr];simp only[go_sem]
    refine⟨fun h=>?_,fun h=>?_⟩
    · have hi:i<l.length:=by have:=lF h;omega
      have hgi:l[(i:Int).toNat]?=some l[i]:=by rw[lA,lD hi]
      obtain⟨e1,e2,e3⟩:=dbyte l[i]
      refine⟨by omega,by omega,?_⟩
      rw[hgi];simp only[e1,e2,e3,go_sem]
      cases hb1:l[i]==32 with
      |true=>
       simp only[hb1,go_sem]
       exact⟨by omega,⟨(([]:List Tok),i+1),by show(([]:List Tok):List Tok).length<=i+1;omega,hi,hK.blank hi (by rw[hb1];rfl)⟩,⟨rfl,sP3 qza,qza,qza⟩,by show l.length-(i+1)<l.length-i;omega⟩
      |false=>
       simp only[hb1,go_sem]
       refine⟨by omega,by omega,?_⟩
       rw[hgi];simp only[e2,go_sem]
       cases hb2:l[i]==10 with
       |true=>
        simp only[hb2,go_sem]
        exact⟨by omega,⟨(([]:List Tok),i+1),by show(([]:List Tok):List Tok).length<=i+1;omega,hi,hK.blank hi (by rw[hb1,hb2];rfl)⟩,⟨rfl,sP3 qza,qza,qza⟩,by show l.length-(i+1)<l.length-i;omega⟩
       |false=>
        have hb:(l[i]==32||l[i]==10)=false:=by rw[hb1,hb2];rfl
        simp only[hb2,go_sem]
        refine⟨by omega,by omega,?_⟩
        rw[hgi];simp only[e3,go_sem]
        cases h35:l[i]==35 with
        |true=>
         simp only[h35,go_sem]
         refine qzj (T:={j:Nat //i<=j/\j<=l.length/\runN (· != 10) l j=runN (· != 10) l i})
          (fun j=>⟨70,put 0 (.d (.st l)) (put 5 (.d (.imm (.slice none 0 0))) (put 6 (.d (.int .i64 j.1)) nix)),nix,nix⟩) (fun j=>l.length-j.1) ⟨i,Nat.le_refl _,h2,rfl⟩
          ⟨rfl,sP3 qza,qza,qza⟩ ?_
         rintro⟨j,hij,hj,hr⟩;dsimp only;simp only[go_sem];have hgt:=qjy (p:=(· != 10)) hi (by rw[eq_of_beq h35];rfl)
         cases hjl:decide ((j:Int)<(l.length:Int))with
         |true=>
          have hlt:j<l.length:=by have:=lF hjl;omega
          have hne:((l[j].toNat:Int) != 10)=(l[j] != 10):=by
           have:=(dbyte l[j]).2.1;simp only[bne,this]
          simp only[hjl,go_sem]
          refine⟨by omega,by omega,?_⟩
          rw[lA,lD hlt];simp only[hne,go_sem]
          cases h10:l[j] != 10 with
          |true=>
           have e4:=qw5 (p:=(· != 10)) hlt h10;simp only[h10,go_sem]
           exact⟨by omega,⟨j+1,by omega,hlt,by rw[<-e4,hr]⟩,⟨rfl,sP3 qza,qza,qza⟩,by show l.length-(j+1)<l.length-j;omega⟩
          |false=>
           have e4:runN (· != 10) l i=j:=by rw[<-hr,qvz hlt h10]
           simp only[h10,go_sem]
           refine⟨⟨(([]:List Tok),j),by show(([]:List Tok):List Tok).length<=j;omega,hj,by have:=hK.comment hi hb h35;rw[e4]at this;exact this⟩,⟨rfl,sP3 qza,qza,qza⟩,by show l.length-j<l.length-i;omega⟩
         |false=>
          have hjj:j=l.length:=by have:=lG hjl;omega
          have e4:runN (· != 10) l i=j:=by rw[<-hr,zzn (by omega)]
          simp only[hjl,go_sem]
          refine⟨⟨(([]:List Tok),j),by show(([]:List Tok):List Tok).length<=j;omega,hj,by have:=hK.comment hi hb h35;rw[e4]at this;exact this⟩,⟨rfl,sP3 qza,qza,qza⟩,by show l.length-j<l.length-i;omega⟩
        |false=>
         simp only[h35,go_sem]
         refine⟨l,i,rfl,hi,by omega,fun t ht=>?_,fun c ht=>?_⟩
         · have hlen:=zwv hi ht;have hK1:=hK.more hi hb h35 ht hlen.1;simp only[tokD,go_sem]
           refine⟨by omega,⟨(([]:List Tok)++[t],i+t.text.length),by show(([]:List Tok)++[t]).length<=_;simp only[lC,lH,lB]at h1⊢;omega,hlen.2,hK1⟩,⟨rfl,sP1 (qzd ?_ (sP1 qza)),qza,subm_rtk (l:=([]:List Tok)) (x:=t) rfl⟩,by show l.length-(i+t.text.length)<l.length-i;omega⟩
           show _=some (rtkLV (([]:List Tok)++[t]))
           rw[zj8];rfl
         · have hc:=zww ht
           have hc':(c != 0)=true:=by simpa using hc
           simp only[tokD,hc',go_sem];exact⟨_,.cons (.nil 4 false) (.cons (.rfl _) (.cons (.rfl _) .nil)),hK.bad hi hb h35 ht hc⟩
    · have hil:i=l.length:=by have:=lG h;omega
      subst hil;have hf:=hK.fin;exact⟨_,.cons (.rfl _) (.cons (.rfl _) (.cons (.rfl _) .nil)),hf⟩
   |cons y acc=>
    dsimp only[rtkLV,rtkAr];simp only[go_sem]
    refine⟨fun h=>?_,fun h=>?_⟩
    · have hi:i<l.length:=by have:=lF h;omega
      have hgi:l[(i:Int).toNat]?=some l[i]:=by rw[lA,lD hi]
      obtain⟨e1,e2,e3⟩:=dbyte l[i]
      refine⟨by omega,by omega,?_⟩
      rw[hgi];simp only[e1,e2,e3,go_sem]
      cases hb1:l[i]==32 with
      |true=>
       simp only[hb1,go_sem]
       exact⟨by omega,⟨((y::acc),i+1),by show((y::acc):List Tok).length<=i+1;omega,hi,hK.blank hi (by rw[hb1];rfl)⟩,⟨rfl,sP3 qza,qza,(sP1 qza)⟩,by show l.length-(i+1)<l.length-i;omega⟩
      |false=>
       simp only[hb1,go_sem]
       refine⟨by omega,by omega,?_⟩
       rw[hgi];simp only[e2,go_sem]
       cases hb2:l[i]==10 with
       |true=>
        simp only[hb2,go_sem]
        exact⟨by omega,⟨((y::acc),i+1),by show((y::acc):List Tok).length<=i+1;omega,hi,hK.blank hi (by rw[hb1,hb2];rfl)⟩,⟨rfl,sP3 qza,qza,(sP1 qza)⟩,by show l.length-(i+1)<l.length-i;omega⟩
       |false=>
        have hb:(l[i]==32||l[i]==10)=false:=by rw[hb1,hb2];rfl
        simp only[hb2,go_sem]
        refine⟨by omega,by omega,?_⟩
        rw[hgi];simp only[e3,go_sem]
        cases h35:l[i]==35 with
        |true=>
         simp only[h35,go_sem]
         refine qzj (T:={j:Nat //i<=j/\j<=l.length/\runN (· != 10) l j=runN (· != 10) l i})
          (fun j=>⟨70,put 0 (.d (.st l)) (put 5 (.os 57 4 (acc.length+1)) (put 6 (.d (.int .i64 j.1)) nix)),nix,(put 57 (4,170,(y::acc).map tokD) nix)⟩) (fun j=>l.length-j.1) ⟨i,Nat.le_refl _,h2,rfl⟩
          ⟨rfl,sP3 qza,qza,(sP1 qza)⟩ ?_
         rintro⟨j,hij,hj,hr⟩;dsimp only;simp only[go_sem];have hgt:=qjy (p:=(· != 10)) hi (by rw[eq_of_beq h35];rfl)
         cases hjl:decide ((j:Int)<(l.length:Int))with
         |true=>
          have hlt:j<l.length:=by have:=lF hjl;omega
          have hne:((l[j].toNat:Int) != 10)=(l[j] != 10):=by
           have:=(dbyte l[j]).2.1;simp only[bne,this]
          simp only[hjl,go_sem]
          refine⟨by omega,by omega,?_⟩
          rw[lA,lD hlt];simp only[hne,go_sem]
          cases h10:l[j] != 10 with
          |true=>
           have e4:=qw5 (p:=(· != 10)) hlt h10;simp only[h10,go_sem]
           exact⟨by omega,⟨j+1,by omega,hlt,by rw[<-e4,hr]⟩,⟨rfl,sP3 qza,qza,(sP1 qza)⟩,by show l.length-(j+1)<l.length-j;omega⟩
          |false=>
           have e4:runN (· != 10) l i=j:=by rw[<-hr,qvz hlt h10]
           simp only[h10,go_sem]
           refine⟨⟨((y::acc),j),by show((y::acc):List Tok).length<=j;omega,hj,by have:=hK.comment hi hb h35;rw[e4]at this;exact this⟩,⟨rfl,sP3 qza,qza,(sP1 qza)⟩,by show l.length-j<l.length-i;omega⟩
         |false=>
          have hjj:j=l.length:=by have:=lG hjl;omega
          have e4:runN (· != 10) l i=j:=by rw[<-hr,zzn (by omega)]
          simp only[hjl,go_sem]
          refine⟨⟨((y::acc),j),by show((y::acc):List Tok).length<=j;omega,hj,by have:=hK.comment hi hb h35;rw[e4]at this;exact this⟩,⟨rfl,sP3 qza,qza,(sP1 qza)⟩,by show l.length-j<l.length-i;omega⟩
        |false=>
         simp only[h35,go_sem]
         refine⟨l,i,rfl,hi,by omega,fun t ht=>?_,fun c ht=>?_⟩
         · have hlen:=zwv hi ht;have hK1:=hK.more hi hb h35 ht hlen.1;simp only[tokD,go_sem]
           refine⟨by simp only[lB]at h1;omega,by simp only[lB]at h1;omega,by omega,⟨((y::acc)++[t],i+t.text.length),by show((y::acc)++[t]).length<=_;simp only[lC,lH,lB]at h1⊢;omega,hlen.2,hK1⟩,⟨rfl,sP1 (qzd ?_ (sP1 qza)),qza,subm_rtk (l:=y::acc) (x:=t) rfl⟩,by show l.length-(i+t.text.length)<l.length-i;omega⟩
           show _=some (rtkLV ((y::acc)++[t]))
           rw[zj8];rfl
         · have hc:=zww ht
           have hc':(c != 0)=true:=by simpa using hc
           simp only[tokD,hc',go_sem];exact⟨_,.cons (.nil 4 false) (.cons (.rfl _) (.cons (.rfl _) .nil)),hK.bad hi hb h35 ht hc⟩
    · have hil:i=l.length:=by have:=lG h;omega
      subst hil;have hf:=hK.fin
      refine⟨by simp only[lB]at h1;omega,by simp only[lB]at h1;omega,by simp,?_⟩
      exact⟨_,.cons (.rfl _) (.cons (.rfl _) (.cons (.rfl _) .nil)),hf⟩
end Lx
