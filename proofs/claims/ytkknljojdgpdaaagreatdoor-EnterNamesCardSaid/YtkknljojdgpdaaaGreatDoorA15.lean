import Derived.Test.YtkknljojdgpdaaaGreatDoorA10
import Derived.Lib.IndexLaws
import Derived.Lib.ParseIntBCases
import Derived.Lib.SmallJoins
import Derived.Test.YtkknljojdgpdaaaGreatDoorA14
set_option maxHeartbeats 32000000
set_option linter.unusedSimpArgs false
set_option linter.unusedVariables false
set_option maxRecDepth 20000
namespace Lx
open Go
open Lg (Tok Tree)
open Go.Proofs (Tryz.prog)
open Go.Proofs.Tryz
def orSX (A B:Spec):Spec:=fun ys bx Kr Kp=>A ys bx Kr Kp\/B ys bx Kr Kp
theorem OK.orX {P:Program}{f:FuncId}{A B:Spec}(h1:OK P f A)(h2:OK P f B):OK P f (orSX A B) where
 enters:=h1.enters
 calls:=fun ys bx Kr Kp h=>h.elim (h1.calls ys bx Kr Kp) (h2.calls ys bx Kr Kp)
abbrev runsS:Spec:=orSX (runS 73 (· != 10)) (orSX (runS 74 Lg.zzb) (runS 78 Lg.qq8))
theorem runs_OK:OK Tryz.prog 72 runsS:=(run_OK 73 _ line_OK).orX ((run_OK 74 _ zwe).orX (run_OK 78 _ within_OK))
def zxp (d:Nat)(xs:List Tok):LV:=match xs with
 |[]=>.d (.imm (.slice none 0 0))
 |x::l=>.os d 4 (x::l).length
def tokAr (d:Nat)(xs:List Tok):Ar:=match xs with
 |[]=>nix
 |x::l=>put d (4,152,(x::l).map tokD) nix
@[go_sem]theorem tokLV_nil (d:Nat):zxp d []=.d (.imm (.slice none 0 0)):=(rfl)
@[go_sem]theorem tokLV_cons (d:Nat)(x:Tok)(l:List Tok):zxp d (x::l)=.os d 4 (l.length+1):=(rfl)
@[go_sem]theorem tokAr_nil (d:Nat):tokAr d []=nix:=(rfl)
@[go_sem]theorem tokAr_cons (d:Nat)(x:Tok)(l:List Tok):tokAr d (x::l)=put d (4,152,(x::l).map tokD) nix:=(rfl)
theorem qjw (d:Nat)(x:Tok)(l:List Tok):zxp d (l++[x])=.os d 4 (l.length+1):=by
 cases l with
 |nil=>rfl
 |cons y l=>simp[zxp]
theorem qko {d:Nat}{x:Tok}{l:List Tok}{f:Ar}(h:f d=some (4,152,l.map tokD++[tokD x])):subm f (tokAr d (l++[x])):=by
 have e:tokAr d (l++[x])=put d (4,152,l.map tokD++[tokD x]) nix:=by
  cases l with
  |nil=>rfl
  |cons y l=>simp[tokAr]
 rw[e];exact qzd h qza
def lexP (r:Except (Int×Int) (List Tok))(f:List Tok->Prop)(g:Int->Int->Prop):Prop:=match r with
 |.ok xs=>f xs
 |.error (a,c)=>g a c
theorem lex_blank {l:Bs}{i:Nat}(h:i<l.length)(hb:(l[i]==32||l[i]==10)=true):Lg.lex i (l.drop i)=Lg.lex ((i+1:Nat):Int) (l.drop (i+1)):=by
 rw[List.drop_eq_getElem_cons h,Lg.lex,if_pos hb];rfl
theorem zxa {α:Type}(p:α->Bool):∀l:List α,(l.takeWhile p).length<=l.length/\l.take (l.takeWhile p).length=l.takeWhile p/\l.drop (l.takeWhile p).length=l.dropWhile p
 |[]=>by simp
 |x::l=>by
  obtain⟨h1,h2,h3⟩:=zxa p l;by_cases h:p x=true
  · rw[List.takeWhile_cons_of_pos h,List.dropWhile_cons_of_pos h];simp only[lB,List.take_succ_cons,List.drop_succ_cons,h2,h3]
    exact⟨by omega,trivial,trivial⟩
  ·rw[List.takeWhile_cons_of_neg h,List.dropWhile_cons_of_neg h];simp
theorem zwd {α:Type}(p:α->Bool)(l:List α):l.drop (l.takeWhile p).length=l.dropWhile p:=(zxa p l).2.2
theorem drop_runN (p:UInt8->Bool)(l:Bs)(i:Nat):l.drop (runN p l i)=(l.drop i).dropWhile p:=by
 unfold runN;rw[<-List.drop_drop,zwd]
theorem qk6 {p:UInt8->Bool}{l:Bs}{i:Nat}(h:i<=l.length):runN p l i<=l.length:=by
 have h1:=(zxa p (l.drop i)).1;unfold runN;simp at h1;omega
theorem qxk (p:UInt8->Bool)(l:Bs)(i:Nat):(l.take (runN p l i)).drop i=(l.drop i).takeWhile p:=by
 unfold runN;rw[List.drop_take,Nat.add_sub_cancel_left];exact(zxa p (l.drop i)).2.1
theorem lex_comment {l:Bs}{i:Nat}(h:i<l.length)(hb:(l[i]==32||l[i]==10)=false)(h2:(l[i]==35)=true):
  Lg.lex i (l.drop i)=Lg.lex ((runN (· != 10) l i:Nat):Int) (l.drop (runN (· != 10) l i)):=by
 have h3:l[i]=35:=eq_of_beq h2;rw[drop_runN,qw5 h (by rw[h3];rfl),List.drop_eq_getElem_cons h,Lg.lex,if_neg (by rw[hb];decide),if_pos h2,List.dropWhile_cons,if_pos (by rw[h3];rfl)];unfold runN
 push_cast
 rfl
theorem lex_tok {l:Bs}{i:Nat}(h:i<l.length)(hb:(l[i]==32||l[i]==10)=false)(h2:(l[i]==35)=false):
  Lg.lex i (l.drop i)=match Lg.tokAt i (l.drop i)with
   |.error e=>.error (i,e)
   |.ok t=>match Lg.lex (i+t.text.length) ((l.drop (i+1)).drop (t.text.length-1))with
     |.error e=>.error e
     |.ok ts=>.ok (t::ts):=by
 conv=>lhs;rw[List.drop_eq_getElem_cons h,Lg.lex,if_neg (by rw[hb];decide),if_neg (by rw[h2];decide),<-List.drop_eq_getElem_cons h]
 rfl
theorem lex_end (l:Bs):Lg.lex l.length (l.drop l.length)=.ok [⟨0,[],0,l.length⟩]:=by
 rw[List.drop_length,Lg.lex]
theorem dbyte (c:UInt8):((c.toNat:Int)==32)=(c==32)/\((c.toNat:Int)==10)=(c==10)/\((c.toNat:Int)==35)=(c==35):=by
 refine⟨?_,?_,?_⟩
 all_goals
  rw[Bool.eq_iff_iff];simp only[beq_iff_eq]
  refine⟨fun h=>UInt8.toNat_inj.1 (Int.ofNat_inj.1 h),fun h=>by rw[h];rfl⟩
theorem tokAt_kind {p:Int}{l:Bs}{t:Tok}(h:Lg.tokAt p l=.ok t):t.kind≠0:=by
 unfold Lg.tokAt at h;split at h
 ·cases h
 · split at h
   · split at h
     ·cases h
     ·cases h;exact(by decide:(3:Int)≠0)
   · split at h
     · split at h
       ·cases h
       ·cases h;show(if _ then(2:Int)else 1)≠0;split<;>decide
     · split at h
       ·cases h
       ·cases h;exact(by decide:(4:Int)≠0)
theorem qjy {p:UInt8->Bool}{l:Bs}{i:Nat}(h:i<l.length)(hp:p l[i]=true):i<runN p l i:=by
 rw[qw5 h hp];unfold runN;omega
theorem zwq (p:UInt8->Bool):∀l:Bs,(l.takeWhile p).all p=true
 |[]=>rfl
 |x::l=>by
  rw[List.takeWhile_cons];split
  ·rename_i h;rw[List.all_cons,h,zwq p l];rfl
  ·rfl
theorem qk5 (p:UInt8->Bool)(l:Bs)(i:Nat):runN p l i-i=((l.drop i).takeWhile p).length:=by unfold runN;omega
theorem hd48 {l:Bs}{i:Nat}(h:i<l.length):(l[i]?==some 48)=(l[i]==48):=by
 rw[lD h,Bool.eq_iff_iff];simp
theorem qvs {l:Bs}{i:Nat}(h:i<l.length)(hd:Lg.zzb l[i]=true):Lg.tokAt i (l.drop i)=
  if(decide (1099511627776<Lg.dec ((l.take (runN Lg.zzb l i)).drop i))||(decide (1<runN Lg.zzb l i-i)&&l[i]?==some 48)||Lg.zv1 (l.drop (runN Lg.zzb l i)))=true then .error 12
  else .ok ⟨3,(l.take (runN Lg.zzb l i)).drop i,Lg.dec ((l.take (runN Lg.zzb l i)).drop i),i⟩:=by
 rw[qxk,drop_runN,qk5,hd48 h];unfold Lg.tokAt;rw[List.drop_eq_getElem_cons h];simp only[hd,if_true]
theorem zxl {c:UInt8}(h:Lg.zzz c=true):Lg.qq8 c=true:=by unfold Lg.qq8;rw[h];rfl
theorem qkn {l:Bs}{i:Nat}(h:i<l.length)(hd:Lg.zzb l[i]=false)(hw:Lg.zzz l[i]=true):Lg.tokAt i (l.drop i)=
  if 16<runN Lg.qq8 l i-i then .error 13
  else .ok ⟨if Lg.isKey ((l.take (runN Lg.qq8 l i)).drop i)then 2 else 1,(l.take (runN Lg.qq8 l i)).drop i,0,i⟩:=by
 rw[qxk,qk5];unfold Lg.tokAt;rw[List.drop_eq_getElem_cons h];simp only[hd,hw,if_true,Bool.false_eq_true,if_false]
theorem qwj {l:Bs}{i:Nat}(h:i<l.length)(hd:Lg.zzb l[i]=false)(hw:Lg.zzz l[i]=false):Lg.tokAt i (l.drop i)=
  if Lg.sign (l.drop i)=[]then .error 11 else .ok ⟨4,Lg.sign (l.drop i),0,i⟩:=by
 unfold Lg.tokAt;rw[List.drop_eq_getElem_cons h];simp only[hd,hw,Bool.false_eq_true,if_false]
theorem zxc (l:Bs):(Lg.sign l).length<=l.length:=by
 have hp:∀p:Bs,p.isPrefixOf l=true->p.length<=l.length:=fun p h=>(List.isPrefixOf_iff_prefix.1 h).length_le
 unfold Lg.sign;split
 ·rename_i h;exact hp _ h
 · split
   ·rename_i h;exact hp _ h
   · split
     ·rename_i h;exact hp _ h
     · cases l with
       |nil=>simp
       |cons b r=>simp only;split<;>simp
theorem zwu {p:Int}{l:Bs}{t:Tok}(h:Lg.tokAt p l=.ok t): -9223372036854775807<=t.num/\t.num<=9223372036854775807:=by
 unfold Lg.tokAt at h;split at h
 ·cases h
 · split at h
   · split at h
     ·cases h
     · rename_i h1;cases h;simp only[Bool.or_eq_true,decide_eq_true_eq,not_or]at h1;obtain⟨⟨h1,_⟩,_⟩:=h1
       show -9223372036854775807<=((Lg.dec _:Nat):Int)/\((Lg.dec _:Nat):Int)<=9223372036854775807
       omega
   · split at h
     · split at h
       ·cases h
       ·cases h;exact⟨(by decide:(-9223372036854775807:Int)<=0),(by decide:(0:Int)<=9223372036854775807)⟩
     · split at h
       ·cases h
       ·cases h;exact⟨(by decide:(-9223372036854775807:Int)<=0),(by decide:(0:Int)<=9223372036854775807)⟩
theorem ends_cons {t:Tok}{ts:List Tok}(h1:t.kind≠0)(h2: -9223372036854775807<=t.num/\t.num<=9223372036854775807)(h:Ends ts):Ends (t::ts):=by
 cases ts with
 |nil=>exact h.elim
 |cons u us=>exact⟨h1,h2.1,h2.2,h⟩
theorem zxf:∀(n:Nat) (p:Int) (l:Bs),l.length<=n->∀ts,Lg.lex p l=.ok ts->Ends ts/\ts.length<=l.length+1
 |n,p,[],_,ts,h=>by
  rw[Lg.lex]at h;cases h;exact⟨rfl,by simp⟩
 |0,p,b::r,hn,ts,h=>by simp at hn
 |n+1,p,b::r,hn,ts,h=>by
  simp only[lB]at hn;rw[Lg.lex]at h;split at h
  · obtain⟨h1,h2⟩:=zxf n _ r (by omega) ts h
    exact⟨h1,by simp only[lB];omega⟩
  · split at h
    · have:=Lg.qwc (· != 10) r;obtain⟨h1,h2⟩:=zxf n _ _ (by omega) ts h
      exact⟨h1,by simp only[lB];omega⟩
    · split at h
      ·cases h
      · rename_i t ht;split at h
        ·cases h
        · rename_i ts' hts;cases h;obtain⟨h1,h2⟩:=zxf n _ _ (by rw[List.length_drop];omega) ts' hts;rw[List.length_drop]at h2
          exact⟨ends_cons (tokAt_kind ht) (zwu ht) h1,by simp only[lB];omega⟩
theorem zvu {l:Bs}{ts:List Tok}(hl:l.length<=16384)(h:Lg.lex 0 l=.ok ts):Good ts:=by
 obtain⟨h1,h2⟩:=zxf _ _ l (Nat.le_refl _) ts h
 exact⟨h1,by omega⟩
def LexQ (l:Bs)(Kr:LV->Bx->Ar1->Prop)(acc:List Tok)(i:Nat):Prop:=
 lexP (Lg.lex i (l.drop i)) (fun xs=>Kr (.tup [.d (.sl 4 ((acc++xs).map tokD) false),.d (.int .i64 0),.d (.int .i64 0)]) nix none) (fun a c=>c≠0->Kr (.tup [.d (.sl 4 [] false),.d (.int .i64 a),.d (.int .i64 c)]) nix none)
section
variable {l:Bs}{Kr:LV->Bx->Ar1->Prop}{acc:List Tok}{i:Nat}
theorem LexQ.blank (h:LexQ l Kr acc i)(hi:i<l.length)(hb:(l[i]==32||l[i]==10)=true):LexQ l Kr acc (i+1):=by
 unfold LexQ at h;rw[lex_blank hi hb]at h;exact h
theorem LexQ.comment (h:LexQ l Kr acc i)(hi:i<l.length)(hb:(l[i]==32||l[i]==10)=false)(h2:(l[i]==35)=true):LexQ l Kr acc (runN (· != 10) l i):=by
 unfold LexQ at h;rw[lex_comment hi hb h2]at h;exact h
theorem LexQ.fin (h:LexQ l Kr acc l.length):Kr (.tup [.d (.sl 4 (acc.map tokD++[tokD ⟨0,[],0,l.length⟩]) false),.d (.int .i64 0),.d (.int .i64 0)]) nix none:=by
 unfold LexQ at h;rw[lex_end]at h;simp only[lexP,List.map_append]at h;exact h
theorem LexQ.bad (h:LexQ l Kr acc i)(hi:i<l.length)(hb:(l[i]==32||l[i]==10)=false)(h2:(l[i]==35)=false){c:Int}(ht:Lg.tokAt i (l.drop i)=.error c)(hc:c≠0):
  Kr (.tup [.d (.sl 4 [] false),.d (.int .i64 i),.d (.int .i64 c)]) nix none:=by
 unfold LexQ at h;rw[lex_tok hi hb h2,ht]at h;exact h hc
theorem LexQ.more (h:LexQ l Kr acc i)(hi:i<l.length)(hb:(l[i]==32||l[i]==10)=false)(h2:(l[i]==35)=false){t:Tok}(ht:Lg.tokAt i (l.drop i)=.ok t)(hl:1<=t.text.length):
  LexQ l Kr (acc++[t]) (i+t.text.length):=by
 unfold LexQ at h⊢;rw[lex_tok hi hb h2,ht]at h;simp only at h
 rw[List.drop_drop,show i+1+(t.text.length-1)=i+t.text.length by omega]at h
 cases hx:Lg.lex (i+t.text.length:Int) (l.drop (i+t.text.length))with
 |error p=>obtain⟨a,c⟩:=p;rw[hx]at h;rw[show((i+t.text.length:Nat):Int)=(i:Int)+t.text.length from rfl,hx];exact h
 |ok xs=>
  rw[hx]at h
  rw[show((i+t.text.length:Nat):Int)=(i:Int)+t.text.length from rfl,hx]
  simp only[lexP,List.append_assoc,List.singleton_append]at h⊢;exact h
end
theorem toks_OK (hpi:OK Tryz.prog 120 pintS)(hidx:OK Tryz.prog 123 idxS):OK Tryz.prog 40 toksS:=by
 refine fn_OK' qzu (E:=EV) (sp:=spL [(72,runsS),(74,(zzg Lg.zzb)),(75,numberS),(76,(zzg Lg.zzz)),(77,wordS),(79,signS)]) qzt qzl (OKs.ok ⟨runs_OK,⟨zwe,⟨(number39_OK hpi),⟨zx3,⟨word_OK,⟨(sign_OK hidx),trivial⟩⟩⟩⟩⟩⟩) func40 rfl ntmps40 results40 call40 [] none ?_;rintro ys bx Kr Kp ⟨l,rfl,hK0⟩
 refine⟨[],rfl,trivial,by simp,?_⟩
 unfold Lg.toks at hK0;simp only[go_sem]
 refine⟨fun h=>?_,fun h=>?_⟩
 ·rw[if_pos (by have:=lF h;omega)]at hK0;exact⟨_,.cons (.nil 4 false) (.cons (.rfl _) (.cons (.rfl _) .nil)),hK0 (by decide)⟩
 · have hl:l.length<=16384:=by have:=lG h;omega
   rw[if_neg (by omega)]at hK0
   refine qzj (T:={t:List Tok×Nat //t.1.length<=t.2/\t.2<=l.length/\LexQ l Kr t.1 t.2})
    (fun t=>⟨87,put 0 (.d (.st l)) (put 5 (zxp 75 t.1.1) (put 6 (.d (.int .i64 t.1.2)) nix)),nix,tokAr 75 t.1.1⟩) (fun t=>l.length-t.1.2) ⟨([],0),by simp,by omega,?_⟩
    ⟨rfl,sP3 qza,qza,qza⟩ ?_
   · show lexP (Lg.lex 0 l) _ _
     cases hx:Lg.lex 0 l with
     |error p=>obtain⟨a,c⟩:=p;rw[hx]at hK0;refine fun hc=>hK0 hc
     |ok xs=>rw[hx]at hK0;exact hK0 (zvu hl hx)
   rintro⟨⟨acc,i⟩,g1,g2,gK⟩;have h1:acc.length<=i:=g1;have h2:i<=l.length:=g2;have hK:LexQ l Kr acc i:=gK
   cases acc with
   |nil=>
    simp only[go_sem]
    refine⟨fun h=>?_,fun h=>?_⟩
    · have hi:i<l.length:=by have:=lF h;omega
      refine⟨by omega,by omega,zz0 (lD (by simpa using hi)) ?_⟩
      obtain⟨e1,e2,e3⟩:=dbyte l[i];simp only[lA,e1,e2,e3,go_sem]
      refine⟨fun hb1=>⟨⟨by omega,by omega⟩,⟨(([]:List Tok),i+1),by simp only[lH,lB];omega,hi,hK.blank hi (by simp[hb1])⟩,⟨rfl,sP3 qza,qza,qza⟩,by show l.length-(i+1)<l.length-i;omega⟩,
       fun hb1=>⟨fun hb2=>⟨⟨by omega,by omega⟩,⟨(([]:List Tok),i+1),by simp only[lH,lB];omega,hi,hK.blank hi (by simp[hb2])⟩,⟨rfl,sP3 qza,qza,qza⟩,by show l.length-(i+1)<l.length-i;omega⟩,fun hb2=>?_⟩⟩
      have hb:(l[i]==32||l[i]==10)=false:=by rw[hb1,hb2];rfl
      refine⟨fun h35=>?_,fun h35=>?_⟩
      · refine Or.inl ⟨l,i,rfl,h2,by omega,?_⟩
        simp only[lA,go_sem];refine⟨⟨(([]:List Tok),runN (· != 10) l i),?_,qk6 h2,hK.comment hi hb h35⟩,⟨rfl,sP3 qza,qza,qza⟩,?_⟩
        ·have:=qjy (p:=(· != 10)) hi (by rw[eq_of_beq h35];rfl);simp only[lH,lB]at h1⊢;omega
        ·have:=qjy (p:=(· != 10)) hi (by rw[eq_of_beq h35];rfl);show l.length-runN (· != 10) l i<l.length-i;omega
      · refine ⟨l[i],rfl,?_⟩;simp only[lA,go_sem]
        refine⟨fun hd=>?_,fun hd=>?_⟩
        · refine Or.inr (Or.inl ⟨l,i,rfl,h2,by omega,?_⟩);simp only[lA,go_sem];have hj:=qjy hi hd;have ht:=qvs hi hd
          refine⟨l,i,runN Lg.zzb l i,rfl,hj,qk6 h2,by omega,by rw[qxk];exact zwq _ _,fun hc=>?_,fun hc=>?_⟩
          ·rw[if_pos hc]at ht;simp only[lA,go_sem];exact⟨_,.cons (.nil 4 false) (.cons (.rfl _) (.cons (.rfl _) .nil)),hK.bad hi hb h35 ht (by decide)⟩
          · rw[if_neg (by rw[hc];decide)]at ht
            have hlen:((l.take (runN Lg.zzb l i)).drop i).length=runN Lg.zzb l i-i:=by rw[qxk,qk5]
            have hj2:=qk6 (p:=Lg.zzb) h2;have hK1:=hK.more hi hb h35 ht (by show 1<=((l.take (runN Lg.zzb l i)).drop i).length;omega);simp only[lA,go_sem]
            refine⟨by omega,⟨(([]:List Tok)++[(⟨3,(l.take (runN Lg.zzb l i)).drop i,Lg.dec ((l.take (runN Lg.zzb l i)).drop i),i⟩:Tok)],_),?_,?_,hK1⟩,⟨rfl,sP1 (qzd ?_ (sP1 qza)),qza,qko (l:=([]:List Tok)) rfl⟩,?_⟩
            ·show(([]:List Tok)++[(⟨3,(l.take (runN Lg.zzb l i)).drop i,Lg.dec ((l.take (runN Lg.zzb l i)).drop i),i⟩:Tok)]).length<=i+((l.take (runN Lg.zzb l i)).drop i).length;simp only[lC,lH,lB]at h1⊢;omega
            ·show i+((l.take (runN Lg.zzb l i)).drop i).length<=l.length;omega
            ·show _=some (zxp 75 (([]:List Tok)++[_]));rw[qjw];rfl
            ·show l.length-(i+((l.take (runN Lg.zzb l i)).drop i).length)<l.length-i;omega
        · refine⟨l[i],rfl,?_⟩;simp only[lA,go_sem]
          refine⟨fun hw=>?_,fun hw=>?_⟩
          · refine Or.inr (Or.inr ⟨l,i,rfl,h2,by omega,?_⟩);simp only[lA,go_sem];have hj:=qjy hi (zxl hw);have hj2:=qk6 (p:=Lg.qq8) h2;have ht:=qkn hi hd hw
            refine⟨l,i,runN Lg.qq8 l i,rfl,by omega,hj2,by omega,fun hc=>?_,fun hc=>?_⟩
            ·rw[if_pos hc]at ht;simp only[lA,go_sem];exact⟨_,.cons (.nil 4 false) (.cons (.rfl _) (.cons (.rfl _) .nil)),hK.bad hi hb h35 ht (by decide)⟩
            · rw[if_neg (by omega)]at ht
              have hlen:((l.take (runN Lg.qq8 l i)).drop i).length=runN Lg.qq8 l i-i:=by rw[qxk,qk5]
              have hK1:=hK.more hi hb h35 ht (by show 1<=((l.take (runN Lg.qq8 l i)).drop i).length;omega);simp only[lA,go_sem]
              refine⟨by omega,⟨(([]:List Tok)++[(⟨if Lg.isKey ((l.take (runN Lg.qq8 l i)).drop i)then 2 else 1,(l.take (runN Lg.qq8 l i)).drop i,0,i⟩:Tok)],_),?_,?_,hK1⟩,⟨rfl,sP1 (qzd ?_ (sP1 qza)),qza,qko (l:=([]:List Tok)) rfl⟩,?_⟩
              ·show(([]:List Tok)++[(⟨if Lg.isKey ((l.take (runN Lg.qq8 l i)).drop i)then 2 else 1,(l.take (runN Lg.qq8 l i)).drop i,0,i⟩:Tok)]).length<=i+((l.take (runN Lg.qq8 l i)).drop i).length;simp only[lC,lH,lB]at h1⊢;omega
              ·show i+((l.take (runN Lg.qq8 l i)).drop i).length<=l.length;omega
              ·show _=some (zxp 75 (([]:List Tok)++[_]));rw[qjw];rfl
              ·show l.length-(i+((l.take (runN Lg.qq8 l i)).drop i).length)<l.length-i;omega
          · have ht:=qwj hi hd hw
            refine⟨by omega,by omega,l.drop i,rfl,?_,?_⟩
            ·rw[List.drop_eq_getElem_cons hi];exact List.cons_ne_nil _ _
            simp only[lA,go_sem]
            refine⟨fun hc=>?_,fun hc=>?_⟩
            ·rw[if_pos (eq_of_beq hc)]at ht;exact⟨_,.cons (.nil 4 false) (.cons (.rfl _) (.cons (.rfl _) .nil)),hK.bad hi hb h35 ht (by decide)⟩
            · have hne:Lg.sign (l.drop i)≠[]:=ne_of_beq_false hc;rw[if_neg hne]at ht
              have hl1:1<=(Lg.sign (l.drop i)).length:=by
               cases e:Lg.sign (l.drop i)with
               |nil=>exact absurd e hne
               |cons _ _=>simp
              have hl2:i+(Lg.sign (l.drop i)).length<=l.length:=by
               have:=zxc (l.drop i);rw[List.length_drop]at this;omega
              have hK1:=hK.more hi hb h35 ht hl1
              refine⟨by omega,⟨(([]:List Tok)++[(⟨4,Lg.sign (l.drop i),0,i⟩:Tok)],_),?_,?_,hK1⟩,⟨rfl,sP1 (qzd ?_ (sP1 qza)),qza,qko (l:=([]:List Tok)) rfl⟩,?_⟩
              ·show(([]:List Tok)++[(⟨4,Lg.sign (l.drop i),0,i⟩:Tok)]).length<=i+(Lg.sign (l.drop i)).length;simp only[lC,lH,lB]at h1⊢;omega
              ·show i+(Lg.sign (l.drop i)).length<=l.length;omega
              ·show _=some (zxp 75 (([]:List Tok)++[_]));rw[qjw];rfl
              ·show l.length-(i+(Lg.sign (l.drop i)).length)<l.length-i;omega
    · have hi:i=l.length:=by have:=lG h;omega
      subst hi;exact⟨_,.cons (.rfl _) (.cons (.rfl _) (.cons (.rfl _) .nil)),hK.fin⟩
   |cons y acc=>
    have h3:acc.length+1<=i:=h1;simp only[go_sem]
    refine⟨fun h=>?_,fun h=>?_⟩
    · have hi:i<l.length:=by have:=lF h;omega
      refine⟨by omega,by omega,zz0 (lD (by simpa using hi)) ?_⟩
      obtain⟨e1,e2,e3⟩:=dbyte l[i];simp only[lA,e1,e2,e3,go_sem]
      refine⟨fun hb1=>⟨⟨by omega,by omega⟩,⟨((y::acc),i+1),by show acc.length+1<=i+1;omega,hi,hK.blank hi (by simp[hb1])⟩,⟨rfl,sP3 qza,qza,sP1 qza⟩,by show l.length-(i+1)<l.length-i;omega⟩,
       fun hb1=>⟨fun hb2=>⟨⟨by omega,by omega⟩,⟨((y::acc),i+1),by show acc.length+1<=i+1;omega,hi,hK.blank hi (by simp[hb2])⟩,⟨rfl,sP3 qza,qza,sP1 qza⟩,by show l.length-(i+1)<l.length-i;omega⟩,fun hb2=>?_⟩⟩
      have hb:(l[i]==32||l[i]==10)=false:=by rw[hb1,hb2];rfl
      refine⟨fun h35=>?_,fun h35=>?_⟩
      · refine Or.inl ⟨l,i,rfl,h2,by omega,?_⟩
        simp only[lA,go_sem];refine⟨⟨((y::acc),runN (· != 10) l i),?_,qk6 h2,hK.comment hi hb h35⟩,⟨rfl,sP3 qza,qza,sP1 qza⟩,?_⟩
        ·have:=qjy (p:=(· != 10)) hi (by rw[eq_of_beq h35];rfl);show acc.length+1<=_;omega
        ·have:=qjy (p:=(· != 10)) hi (by rw[eq_of_beq h35];rfl);show l.length-runN (· != 10) l i<l.length-i;omega
      · refine ⟨l[i],rfl,?_⟩;simp only[lA,go_sem]
        refine⟨fun hd=>?_,fun hd=>?_⟩
        · refine Or.inr (Or.inl ⟨l,i,rfl,h2,by omega,?_⟩);simp only[lA,go_sem];have hj:=qjy hi hd;have ht:=qvs hi hd
          refine⟨l,i,runN Lg.zzb l i,rfl,hj,qk6 h2,by omega,by rw[qxk];exact zwq _ _,fun hc=>?_,fun hc=>?_⟩
          ·rw[if_pos hc]at ht;simp only[lA,go_sem];exact⟨_,.cons (.nil 4 false) (.cons (.rfl _) (.cons (.rfl _) .nil)),hK.bad hi hb h35 ht (by decide)⟩
          · rw[if_neg (by rw[hc];decide)]at ht
            have hlen:((l.take (runN Lg.zzb l i)).drop i).length=runN Lg.zzb l i-i:=by rw[qxk,qk5]
            have hj2:=qk6 (p:=Lg.zzb) h2;have hK1:=hK.more hi hb h35 ht (by show 1<=((l.take (runN Lg.zzb l i)).drop i).length;omega);simp only[lA,go_sem]
            refine⟨by omega,by omega,by omega,⟨((y::acc)++[(⟨3,(l.take (runN Lg.zzb l i)).drop i,Lg.dec ((l.take (runN Lg.zzb l i)).drop i),i⟩:Tok)],_),?_,?_,hK1⟩,⟨rfl,sP1 (qzd ?_ (sP1 qza)),qza,qko (l:=(y::acc)) rfl⟩,?_⟩
            ·show((y::acc)++[(⟨3,(l.take (runN Lg.zzb l i)).drop i,Lg.dec ((l.take (runN Lg.zzb l i)).drop i),i⟩:Tok)]).length<=i+((l.take (runN Lg.zzb l i)).drop i).length;simp only[lC,lH,lB];omega
            ·show i+((l.take (runN Lg.zzb l i)).drop i).length<=l.length;omega
            ·show _=some (zxp 75 ((y::acc)++[_]));rw[qjw];rfl
            ·show l.length-(i+((l.take (runN Lg.zzb l i)).drop i).length)<l.length-i;omega
        · refine⟨l[i],rfl,?_⟩;simp only[lA,go_sem]
          refine⟨fun hw=>?_,fun hw=>?_⟩
          · refine Or.inr (Or.inr ⟨l,i,rfl,h2,by omega,?_⟩);simp only[lA,go_sem];have hj:=qjy hi (zxl hw);have hj2:=qk6 (p:=Lg.qq8) h2;have ht:=qkn hi hd hw
            refine⟨l,i,runN Lg.qq8 l i,rfl,by omega,hj2,by omega,fun hc=>?_,fun hc=>?_⟩
            ·rw[if_pos hc]at ht;simp only[lA,go_sem];exact⟨_,.cons (.nil 4 false) (.cons (.rfl _) (.cons (.rfl _) .nil)),hK.bad hi hb h35 ht (by decide)⟩
            · rw[if_neg (by omega)]at ht
              have hlen:((l.take (runN Lg.qq8 l i)).drop i).length=runN Lg.qq8 l i-i:=by rw[qxk,qk5]
              have hK1:=hK.more hi hb h35 ht (by show 1<=((l.take (runN Lg.qq8 l i)).drop i).length;omega);simp only[lA,go_sem]
              refine⟨by omega,by omega,by omega,⟨((y::acc)++[(⟨if Lg.isKey ((l.take (runN Lg.qq8 l i)).drop i)then 2 else 1,(l.take (runN Lg.qq8 l i)).drop i,0,i⟩:Tok)],_),?_,?_,hK1⟩,⟨rfl,sP1 (qzd ?_ (sP1 qza)),qza,qko (l:=(y::acc)) rfl⟩,?_⟩
              ·show((y::acc)++[(⟨if Lg.isKey ((l.take (runN Lg.qq8 l i)).drop i)then 2 else 1,(l.take (runN Lg.qq8 l i)).drop i,0,i⟩:Tok)]).length<=i+((l.take (runN Lg.qq8 l i)).drop i).length;simp only[lC,lH,lB];omega
              ·show i+((l.take (runN Lg.qq8 l i)).drop i).length<=l.length;omega
              ·show _=some (zxp 75 ((y::acc)++[_]));rw[qjw];rfl
              ·show l.length-(i+((l.take (runN Lg.qq8 l i)).drop i).length)<l.length-i;omega
          · have ht:=qwj hi hd hw
            refine⟨by omega,by omega,l.drop i,rfl,?_,?_⟩
            ·rw[List.drop_eq_getElem_cons hi];exact List.cons_ne_nil _ _
            simp only[lA,go_sem]
            refine⟨fun hc=>?_,fun hc=>?_⟩
            ·rw[if_pos (eq_of_beq hc)]at ht;exact⟨_,.cons (.nil 4 false) (.cons (.rfl _) (.cons (.rfl _) .nil)),hK.bad hi hb h35 ht (by decide)⟩
            · have hne:Lg.sign (l.drop i)≠[]:=ne_of_beq_false hc;rw[if_neg hne]at ht
              have hl1:1<=(Lg.sign (l.drop i)).length:=by
               cases e:Lg.sign (l.drop i)with
               |nil=>exact absurd e hne
               |cons _ _=>simp
              have hl2:i+(Lg.sign (l.drop i)).length<=l.length:=by
               have:=zxc (l.drop i);rw[List.length_drop]at this;omega
              have hK1:=hK.more hi hb h35 ht hl1
              refine⟨by omega,by omega,by omega,⟨((y::acc)++[(⟨4,Lg.sign (l.drop i),0,i⟩:Tok)],_),?_,?_,hK1⟩,⟨rfl,sP1 (qzd ?_ (sP1 qza)),qza,qko (l:=(y::acc)) rfl⟩,?_⟩
              ·show((y::acc)++[(⟨4,Lg.sign (l.drop i),0,i⟩:Tok)]).length<=i+(Lg.sign (l.drop i)).length;simp only[lC,lH,lB];omega
              ·show i+(Lg.sign (l.drop i)).length<=l.length;omega
              ·show _=some (zxp 75 ((y::acc)++[_]));rw[qjw];rfl
              ·show l.length-(i+(Lg.sign (l.drop i)).length)<l.length-i;omega
    · have hi:i=l.length:=by have:=lG h;omega
      subst hi
      exact⟨by omega,by omega,by simp,_,.cons (.rfl _) (.cons (.rfl _) (.cons (.rfl _) .nil)),hK.fin⟩
open Go Go.RowKit
theorem block_lt' {w:World}{a:Addr}{v:Value}(h:w.cell? a=some v):a.block<w.heap.size:=by
 apply Classical.byContradiction;intro hn;unfold World.cell? at h;rw[Array.getElem?_eq_none (by omega)]at h;cases h
theorem Aft.below {g:Gh}{bx:Bx}{w w':World}(h:Wd g bx nix w)(hB:Below w.heap.size w w'):Aft g bx w g nix none w' where
 Φ:=Phi.le_refl _
 fr:=⟨hB.os,hB.tape,hB.output,hB.size,fun b hb _=>hB.block b hb⟩
 fix:=fun _ _ _ e=>Or.inl e
 wd:={
  box:=fun k b e=>by cases e
  arr:=fun r sz ty xs e=>by simp[ar0]at e
  len:=fun r=>by rw[h.len r];simp[ar0,nix]
  fx:=⟨fun b o v e=>by
   obtain⟨h1,h2⟩:=h.fx.1 b o v e
   exact⟨by rw[hB.cell (block_lt' h1)];exact h1,h2⟩,h.fx.2⟩
  inj:=fun k k' b b' e=>by cases e
  inja:=fun r r' a a' e=>by simp[ar0]at e
  injb:=fun k r b a e=>by cases e
  outb:=fun k b o e=>by cases e
  outa:=fun r a o e _=>by simp[ar0]at e}
 keys:=fun k b e=>by cases e
 arr:=fun a e=>by cases e
theorem zq8 (l:Bs)(c:UInt8):0<=Lib.indexByte l c↔l.contains c=true:=by
 rw[List.contains_iff_mem];constructor
 ·intro h;obtain⟨o,ho⟩:=Int.eq_ofNat_of_zero_le h;exact List.mem_of_getElem? (Lib.indexByte_some ho).1
 · intro h;have:=Lib.indexByte_ge l c
   rcases Nat.lt_or_ge 0 1 with _|_
   · by_cases e:Lib.indexByte l c= -1
     ·obtain⟨k,hk⟩:=List.getElem?_of_mem h;exact absurd hk (Lib.indexByte_none e k)
     ·omega
   ·omega
theorem idx_OK:OK Tryz.prog 123 idxS where
 enters:=fun _ _=>rfl
 calls:=by
  rintro ys bx Kr Kp ⟨l,c,rfl,hK⟩ g vs w hv hw
  rcases hv with _|⟨h1,_|⟨h2,_|_⟩⟩
  rcases h1 with⟨⟨⟩⟩;rcases h2 with⟨⟨⟩⟩
  refine(Go.Proofs.Tryz.strings_IndexByte ⟨l.toArray⟩ (c.toNat:Int) w).mono fun e w' he=>?_
  obtain⟨rfl,rfl⟩:=he;exact⟨g,Or.inl ⟨_,_,nix,none,rfl,hK _ (by rw[show((c.toNat:Int).toNat.toUInt8)=c by simp];exact zq8 l c),.d (.int _ _),Aft.below hw (Below.refl _ _)⟩⟩
def zze (acc:Nat)(l:Bs):Nat:=l.foldl (fun n b=>n*10+(b.toNat-48)) acc
theorem zks:∀(l:Bs) (acc:Nat),acc<=zze acc l
 |[],acc=>Nat.le_refl _
 |b::l,acc=>by
  have:=zks l (acc*10+(b.toNat-48))
  show acc<=zze (acc*10+(b.toNat-48)) l
  omega
theorem parseM:∀(l:Bs) (acc:Nat),l.all Lg.zzb=true->
  Lib.parseUintM 18446744073709551615 acc l=.ok (zze acc l)\/(Lib.parseUintM 18446744073709551615 acc l=.range/\9223372036854775807<zze acc l)
 |[],acc,_=>Or.inl rfl
 |b::l,acc,h=>by
  rw[List.all_cons,Bool.and_eq_true]at h
  have hd:48<=b.toNat/\b.toNat<=57:=by
   have:=h.1;unfold Lg.zzb at this;simpa using this
  have hge:=zks l (acc*10+(b.toNat-48));rw[Lib.parseUintM,if_pos hd]
  show _=Lib.NumEnd.ok (zze (acc*10+(b.toNat-48)) l)\/_/\_<zze (acc*10+(b.toNat-48)) l
  split
  ·exact Or.inr ⟨rfl,by omega⟩
  · split
    ·exact Or.inr ⟨rfl,by omega⟩
    ·exact parseM l _ h.2
theorem parse64 {l:Bs}(hne:l≠[])(h:l.all Lg.zzb=true):Lib.parseIntB 64 l=if 9223372036854775807<Lg.dec l then .range else .ok (Lg.dec l:Int):=by
 cases l with
 |nil=>exact absurd rfl hne
 |cons c r=>
  have hd:48<=c.toNat/\c.toNat<=57:=by
   have:=h;rw[List.all_cons,Bool.and_eq_true]at this;have:=this.1;unfold Lg.zzb at this;simpa using this
  rw[Lib.parseIntB_plain 64 c r (by omega) (by omega)];unfold Lib.parseUintB;rw[if_neg hne];have e:zze 0 (c::r)=Lg.dec (c::r):=rfl
  rcases parseM (c::r) 0 h with h1|⟨h1,h2⟩
  · show Lib.signlessC _ (Lib.parseUintM 18446744073709551615 0 (c::r))=_
    rw[h1,e]
    show(if 9223372036854775808<=Lg.dec (c::r)then _ else _)=_
    split
    ·rw[if_pos (by omega)]
    ·rw[if_neg (by omega)]
  · show Lib.signlessC _ (Lib.parseUintM 18446744073709551615 0 (c::r))=_
    rw[e]at h2;rw[h1,if_pos h2];rfl
theorem pint_OK:OK Tryz.prog 120 pintS where
 enters:=fun _ _=>rfl
 calls:=by
  rintro ys bx Kr Kp ⟨l,rfl,hne,hall,hl,hK1,hK2⟩ g vs w hv hw
  rcases hv with _|⟨h1,_|⟨h2,_|⟨h3,_|_⟩⟩⟩
  rcases h1 with⟨⟨⟩⟩;rcases h2 with⟨⟨⟩⟩;rcases h3 with⟨⟨⟩⟩;have hp:=parse64 hne hall
  have hsz:(⟨l.toArray⟩:ByteArray).size=l.length:=by simp[ByteArray.size]
  by_cases hd:9223372036854775807<Lg.dec l
  · rw[if_pos hd]at hp;obtain⟨v,hg⟩:=hw.fx.2
    refine(Go.Proofs.Tryz.strconv_ParseInt_10_at64_range ⟨l.toArray⟩ (by omega) hp (.iface v.1 v.2) w (hw.fx.1 _ _ _ hg).1 (Or.inr ⟨_,_,rfl⟩)).mono fun e w' he=>?_
    obtain⟨N,rfl,_,_,hB⟩:=he;exact⟨g,Or.inl ⟨_,_,nix,none,rfl,hK2 hd _ _ (.imm _),.tup (.cons (.d (.int _ _)) (.cons (.d (.ifc _ (.imm _))) .nil)),Aft.below hw hB⟩⟩
  · rw[if_neg hd]at hp
    refine(Go.Proofs.Tryz.strconv_ParseInt_10_at64_ok ⟨l.toArray⟩ (by omega) _ hp w).mono fun e w' he=>?_
    obtain⟨rfl,he⟩:=he
    have hB:Below w.heap.size w w':=by
     rcases he with rfl|⟨t,rfl⟩
     ·exact Below.refl _ _
     ·exact Joins.below_bytesWorld _ _ _ _ (Nat.le_refl _)
    exact⟨g,Or.inl ⟨_,_,nix,none,rfl,hK1 (by omega),.tup (.cons (.d (.int _ _)) (.cons (.d (.imm _)) .nil)),Aft.below hw hB⟩⟩
theorem Parse_OK:OK Tryz.prog 20 zke:=parse_OK Lg.item_pay (toks_OK pint_OK idx_OK)
end Lx
namespace Lg
def qvi (l:Bs):Bool:=(l != []&&zv1 l&&l.all qq8&&decide (l.length<=16)&& !isKey l)
def qkq:List Int:=[1,3,6,7,10,11,12,13,14,19,24,25,26,27,28]
def okW (k:Int)(s:Bs)(n:Int):Prop:=0<=k/\k<=28/\n<=1099511627776/\ -1099511627776<=n/\(k∈qkq->qvi s=true)/\(k=5->s=[]\/qvi s=true)/\(k=4\/k=15\/k=16->s=sLt\/s=sLe\/s=sEq2)
mutual
def Well:Tree->Prop
 |.node k s n _ ks=>okW k s n/\qkl ks
def qkl:List Tree->Prop
 |[]=>True
 |k::ks=>Well k/\qkl ks
end
def GT (t:Tok):Prop:=(t.kind=1->qvi t.text=true)/\(t.kind=3->0<=t.num/\t.num<=1099511627776)
def AG (ts:List Tok):Prop:=∀t∈ts,GT t
theorem AG.tail {ts:List Tok}(h:AG ts):AG ts.tail:=fun t ht=>h t (List.mem_of_mem_tail ht)
theorem AG.hd {ts:List Tok}(h:AG ts):GT (hd ts):=by
 cases ts with
 |nil=>exact⟨fun e=>absurd e (by decide),fun e=>absurd e (by decide)⟩
 |cons t l=>exact h t (List.mem_cons_self ..)
def Okr {α:Type}(r:PR α)(Q:α->Prop):Prop:=∀x ts',r=.ok (x,ts')->Q x/\AG ts'
namespace Okr
variable {α β:Type}{Q:β->Prop}
theorem bnd {P:α->Prop}{r:PR α}{f:α->List Tok->PR β}(h:Okr r P)(k:∀a ts,P a->AG ts->Okr (f a ts) Q):Okr (Lg.bnd r f) Q:=by
 intro x ts' e;obtain⟨a,ts1,e1,e2⟩:=qzs e;obtain⟨h1,h2⟩:=h _ _ e1;exact k a ts1 h1 h2 _ _ e2
theorem ret {x:β}{ts:List Tok}(h:Q x)(hg:AG ts):Okr (.ok (x,ts)) Q:=by
 intro y ts' e;obtain⟨rfl,rfl⟩:=qqg e;exact⟨h,hg⟩
theorem err {e:Int×Int}:Okr (.error e) Q:=by intro y ts' h;cases h
theorem flt {e:Int}{ts:List Tok}:Okr (Lg.flt e ts) Q:=err
theorem ite {c:Prop}[Decidable c] {a b:PR β}(h1:c->Okr a Q)(h2:¬c->Okr b Q):Okr (if c then a else b) Q:=by
 split
 ·exact h1 ‹_›
 ·exact h2 ‹_›
theorem mono {P Q:β->Prop}{r:PR β}(h:Okr r P)(k:∀a,P a->Q a):Okr r Q:=fun x ts' e=>⟨k x (h x ts' e).1,(h x ts' e).2⟩
end Okr
def Bd (n:Int):Prop:=n<=1099511627776/\ -1099511627776<=n
theorem Bd.zero:Bd 0:=⟨by decide,by decide⟩
def IsN (x:Tree):Prop:=∃s p,x=.node 5 s 0 p []/\qvi s=true
def IsT (x:Tree):Prop:=∃s n p,x=.node 5 s n p []/\(s=[]\/qvi s=true)/\Bd n
theorem qqx {k:Int}{s:Bs}{n:Int}(hk:k∈qkq)(h:qvi s=true)(hb:Bd n):okW k s n:=by
 have:k=1\/k=3\/k=6\/k=7\/k=10\/k=11\/k=12\/k=13\/k=14\/k=19\/k=24\/k=25\/k=26\/k=27\/k=28:=by
  simpa[qkq]using hk
 exact⟨by omega,by omega,hb.1,hb.2,fun _=>h,fun e=>by omega,fun e=>by omega⟩
theorem okW_term {s:Bs}{n:Int}(h:s=[]\/qvi s=true)(hb:Bd n):okW 5 s n:=
 ⟨by decide,by decide,hb.1,hb.2,fun e=>absurd e (by decide),fun _=>h,fun e=>by omega⟩
theorem zvm {k:Int}{s:Bs}{n:Int}(hk:k=4\/k=15\/k=16)(h:s=sLt\/s=sLe\/s=sEq2)(hb:Bd n):okW k s n:=by
 refine⟨by omega,by omega,hb.1,hb.2,fun e=>?_,fun e=>by omega,fun _=>h⟩
 have:k=1\/k=3\/k=6\/k=7\/k=10\/k=11\/k=12\/k=13\/k=14\/k=19\/k=24\/k=25\/k=26\/k=27\/k=28:=by
  simpa[qkq]using e
 omega
theorem qqy {k:Int}{s:Bs}{n:Int}(hk:k=0\/k=2\/k=8\/k=9\/k=17\/k=18\/k=20\/k=21\/k=22\/k=23)(hb:Bd n):okW k s n:=by
 refine⟨by omega,by omega,hb.1,hb.2,fun e=>?_,fun e=>by omega,fun e=>by omega⟩
 have:k=1\/k=3\/k=6\/k=7\/k=10\/k=11\/k=12\/k=13\/k=14\/k=19\/k=24\/k=25\/k=26\/k=27\/k=28:=by
  simpa[qkq]using e
 omega
theorem qzw {k:Int}{s:Bs}{n p:Int}{ks:List Tree}(h:okW k s n)(hk:qkl ks):Well (.node k s n p ks):=by rw[Well];exact⟨h,hk⟩
theorem qzx:qkl []:=by rw[qkl];trivial
theorem qz0 {x:Tree}{xs:List Tree}(h:Well x)(hs:qkl xs):qkl (x::xs):=by rw[qkl];exact⟨h,hs⟩
theorem qvq {xs ys:List Tree}(h:qkl xs)(hs:qkl ys):qkl (xs++ys):=by
 induction xs with
 |nil=>exact hs
 |cons x xs ih=>rw[qkl]at h;exact qz0 h.1 (ih h.2)
theorem IsT.well {x:Tree}(h:IsT x):Well x:=by obtain⟨s,n,p,rfl,hs,hb⟩:=h;exact qzw (okW_term hs hb) qzx
theorem IsN.term {x:Tree}(h:IsN x):IsT x:=by obtain⟨s,p,rfl,hs⟩:=h;exact⟨s,0,p,rfl,.inr hs,.zero⟩
theorem IsN.well {x:Tree}(h:IsN x):Well x:=h.term.well
section
variable {ts:List Tok}
theorem qxd {s:Bs}(h:AG ts):Okr (must s ts) fun _=>True:=.ite (fun _=>.ret trivial h.tail) fun _=>.flt
theorem qxc (h:AG ts):Okr (name ts) IsN:=by
 refine .bnd (P:=fun t=>qvi t.text=true) (.ite (fun e=>.ret (h.hd.1 e) h.tail) fun _=>.flt) fun t ts' ht hg=>.ret ⟨_,_,rfl,ht⟩ hg
theorem qwo {sg:Int}(hs:sg=1\/sg= -1)(h:AG ts):Okr (zzr sg ts) Bd:=by
 refine .bnd (P:=fun t=>0<=t.num/\t.num<=1099511627776) (.ite (fun e=>.ret (h.hd.2 e) h.tail) fun _=>.flt) fun t ts' ht hg=>.ret ?_ hg
 rcases hs with rfl|rfl
 ·exact⟨by omega,by omega⟩
 ·exact⟨by omega,by omega⟩
theorem more_w {n:Tree}(hn:IsN n)(h:AG ts):Okr (more n ts) IsT:=by
 obtain⟨s,p,rfl,hs⟩:=hn
 refine .ite (fun _=>.bnd (qwo (.inl rfl) h.tail) fun v ts' hv hg=>.ret ⟨s,v,p,rfl,.inr hs,hv⟩ hg) fun _=>?_
 refine .ite (fun _=>.bnd (qwo (.inr rfl) h.tail) fun v ts' hv hg=>.ret ⟨s,v,p,rfl,.inr hs,hv⟩ hg) fun _=>?_
 exact .ret ⟨s,0,p,rfl,.inr hs,.zero⟩ h
theorem qwz (h:AG ts):Okr (term ts) IsT:=by
 refine .ite (fun _=>.bnd (qwo (.inl rfl) h) fun v ts' hv hg=>.ret ⟨[],v,_,rfl,.inl rfl,hv⟩ hg) fun _=>?_
 refine .ite (fun _=>.bnd (qwo (.inr rfl) h.tail) fun v ts' hv hg=>.ret ⟨[],v,_,rfl,.inl rfl,hv⟩ hg) fun _=>?_
 exact .bnd (qxc h) fun n ts' hn hg=>more_w hn hg
theorem cmp_w (h:AG ts):Okr (cmp ts) fun s=>s=sLt\/s=sLe\/s=sEq2:=
 .ite (fun _=>.ret (.inl rfl) h.tail) fun _=>.ite (fun _=>.ret (.inr (.inl rfl)) h.tail) fun _=>.ite (fun _=>.ret (.inr (.inr rfl)) h.tail) fun _=>.flt
def IsF (x:Tree):Prop:=∃op p ks,x=.node 4 op 0 p ks/\(op=sLt\/op=sLe\/op=sEq2)/\qkl ks
theorem IsF.well {x:Tree}(h:IsF x):Well x:=by obtain⟨s,p,ks,rfl,hs,hk⟩:=h;exact qzw (zvm (.inl rfl) hs .zero) hk
theorem fact_w (h:AG ts):Okr (fact ts) IsF:=
 .bnd (qwz h) fun a ts1 ha h1=>.bnd (cmp_w h1) fun op ts2 ho h2=>.bnd (qwz h2) fun b ts3 hb h3=>.ret ⟨_,_,_,rfl,ho,qz0 ha.well (qz0 hb.well qzx)⟩ h3
end
theorem zkj {one:List Tok->PR Tree}(ho:∀ts,AG ts->Okr (one ts) Well):∀(n:Nat) (ts:List Tok),ts.length<=n->AG ts->Okr (qxj one ts) qkl
 |n,ts,hn,h=>by
  rw[qxj]
  refine .ite (fun _=>?_) fun _=>.ret qzx h
  cases e:one ts.tail with
  |error _=>exact .err
  |ok p=>
   obtain⟨x,ts'⟩:=p;obtain⟨h1,h2⟩:=ho _ h.tail _ _ e
   refine .ite (fun hl=>?_) fun _=>.err
   match n,hn with
   |0,hn=>omega
   |n+1,hn=>exact .bnd (zkj ho n ts' (by omega) h2) fun xs ts'' hx hg=>.ret (qz0 h1 hx) hg
theorem list_w {one:List Tok->PR Tree}(ho:∀ts,AG ts->Okr (one ts) Well){ts:List Tok}(h:AG ts):Okr (list one ts) qkl:=
 .bnd (ho _ h) fun x ts1 hx h1=>.bnd (zkj ho _ _ (Nat.le_refl _) h1) fun xs ts2 hxs h2=>.ret (qz0 hx hxs) h2
section
variable {ts:List Tok}
theorem args_w (h:AG ts):Okr (args ts) qkl:=
 .bnd (qxd h) fun _ ts1 _ h1=>.ite (fun _=>.ret qzx h1.tail) fun _=>
  .bnd (list_w (fun ts h=>(qwz h).mono fun _ h=>h.well) h1) fun xs ts2 hx h2=>.bnd (qxd h2) fun _ ts3 _ h3=>.ret hx h3
theorem sort_w (h:AG ts):Okr (sort ts) Well:=
 .ite (fun _=>.ret (qzw (qqy (by decide) .zero) qzx) h.tail) fun _=>
 .ite (fun _=>.ret (qzw (qqy (by decide) .zero) qzx) h.tail) fun _=>
 .ite (fun _=>.bnd (qxc h.tail) fun k ts' hk hg=>.ret (qzw (qqy (by decide) .zero) (qz0 hk.well qzx)) hg) fun _=>.flt
theorem field_w (h:AG ts):Okr (field ts) Well:=by
 refine .bnd (qxc h) fun n ts1 hn h1=>?_
 obtain⟨s,p,rfl,hs⟩:=hn
 exact .ite (fun _=>.bnd (qxc h1.tail) fun k ts2 hk h2=>.bnd (qxd h2) fun _ ts3 _ h3=>.ret (qzw (qqx (by decide) hs .zero) (qz0 hk.well qzx)) h3) fun _=>
  .ret (qzw (qqx (by decide) hs .zero) qzx) h1
theorem zj1 {s:Bs}{p:Int}{ks:List Tree}(hs:qvi s=true)(hk:qkl ks)(h:AG ts):Okr (qxw (.node 1 s 0 p ks) ts) Well:=
 .ite (fun _=>.bnd (list_w (fun ts h=>(fact_w h).mono fun _ h=>h.well) h.tail) fun fs ts1 hf h1=>.bnd (qxd h1) fun _ ts2 _ h2=>
  .ret (qzw (qqx (by decide) hs .zero) (qvq hk hf)) h2) fun _=>
 .bnd (qxd h) fun _ ts2 _ h2=>.ret (qzw (qqx (by decide) hs .zero) hk) h2
theorem typ_w {at_:Int}(h:AG ts):Okr (typ at_ ts) Well:=by
 refine .bnd (qxc h) fun n ts1 hn h1=>.bnd (sort_w h1) fun s ts2 hsr h2=>?_
 obtain⟨s,p,rfl,hs⟩:=hn
 exact .ite (fun _=>.bnd (list_w (fun ts h=>field_w h) h2.tail) fun fs ts3 hf h3=>.bnd (qxd h3) fun _ ts4 _ h4=>zj1 hs (qz0 hsr hf) h4) fun _=>
  zj1 hs (qz0 hsr qzx) h2
theorem mode_w (h:AG ts):Okr (mode ts) Well:=
 .ite (fun _=>.ret (qzw (qqy (by decide) .zero) qzx) h.tail) fun _=>
 .ite (fun _=>.bnd (qxc h.tail) fun k ts' hk hg=>.ret (qzw (qqy (by decide) .zero) (qz0 hk.well qzx)) hg) fun _=>
 .bnd (qxd h) fun _ ts1 _ h1=>
  .ite (fun _=>.bnd (qxc h1.tail) fun k ts' hk hg=>.ret (qzw (qqy (by decide) .zero) (qz0 hk.well qzx)) hg) fun _=>
  .bnd (qxc h1) fun k ts' hk hg=>.ret (qzw (qqy (by decide) .zero) (qz0 hk.well qzx)) hg
theorem param_w (h:AG ts):Okr (param ts) Well:=by
 refine .bnd (qxc h) fun n ts1 hn h1=>.bnd (qxd h1) fun _ ts2 _ h2=>.bnd (mode_w h2) fun m ts3 hm h3=>?_
 obtain⟨s,p,rfl,hs⟩:=hn;exact .ret (qzw (qqx (by decide) hs .zero) (qz0 hm qzx)) h3
theorem qwb {n:Tree}(hn:Well n)(h:AG ts):Okr (zjh n ts) Well:=.bnd (qxd h) fun _ ts1 _ h1=>.ret hn h1
theorem nameAt_w {k:Int}(hk:k∈qkq)(h:AG ts):Okr (nameAt k ts) fun x=>∃s n p,x=.node k s n p []/\qvi s=true/\Bd n:=by
 refine .bnd (qxc h) fun n ts1 hn h1=>.bnd (qxd h1) fun _ ts2 _ h2=>.bnd (qwo (.inl rfl) h2) fun v ts3 hv h3=>.bnd (qxd h3) fun _ ts4 _ h4=>?_
 obtain⟨s,p,rfl,hs⟩:=hn;exact .ret ⟨s,v,p,rfl,hs,hv⟩ h4
theorem expr_w (h:AG ts):Okr (expr ts) Well:=by
 refine .ite (fun _=>.bnd (qwo (.inl rfl) h.tail) fun v ts' hv hg=>.ret (qzw (qqy (by decide) hv) qzx) hg) fun _=>?_
 refine .ite (fun _=>.bnd (qxc h.tail) fun k ts' hk hg=>?_) fun _=>?_
 ·obtain⟨s,p,rfl,hs⟩:=hk;exact .ret (qzw (qqx (by decide) hs .zero) qzx) hg
 refine .ite (fun _=>.ite (fun _=>.bnd (qxc h.tail.tail) fun k ts' hk hg=>?_) fun _=>.bnd (qxc h.tail) fun k ts' hk hg=>?_) fun _=>?_
 ·obtain⟨s,p,rfl,hs⟩:=hk;exact .ret (qzw (qqx (by decide) hs .zero) qzx) hg
 ·obtain⟨s,p,rfl,hs⟩:=hk;exact .ret (qzw (qqx (by decide) hs .zero) qzx) hg
 refine .ite (fun _=>(qwz h).mono fun _ h=>h.well) fun _=>.bnd (qxc h) fun n ts1 hn h1=>?_
 have hn':=hn;obtain⟨s,p,rfl,hs⟩:=hn
 refine .ite (fun _=>.bnd (args_w h1) fun xs ts2 hx h2=>.ret (qzw (qqx (by decide) hs .zero) hx) h2) fun _=>?_
 refine .ite (fun _=>.bnd (qwz h1.tail) fun k ts2 hk h2=>.bnd (qxd h2) fun _ ts3 _ h3=>.ret (qzw (qqx (by decide) hs .zero) (qz0 hk.well qzx)) h3) fun _=>?_
 refine .ite (fun _=>.bnd (qxc h1.tail) fun k ts2 hk h2=>.ret (qzw (qqy (by decide) .zero) (qz0 hn'.well (qz0 hk.well qzx))) h2) fun _=>?_
 refine .ite (fun _=>.bnd (qxc h1.tail) fun k ts2 hk h2=>.ret (qzw (qqy (by decide) .zero) (qz0 hn'.well (qz0 hk.well qzx))) h2) fun _=>?_
 exact(more_w hn' h1).mono fun _ h=>h.well
theorem named_w {n:Tree}(hn:IsN n)(h:AG ts):Okr (named n ts) Well:=by
 obtain⟨s,p,rfl,hs⟩:=hn
 refine .ite (fun _=>.bnd (args_w h) fun xs ts1 hx h1=>.ret (qzw (qqy (by decide) .zero) (qz0 (qzw (qqx (by decide) hs .zero) hx) qzx)) h1) fun _=>?_
 refine .ite (fun _=>.bnd (qwz h.tail) fun a ts1 ha h1=>.bnd (qxd h1) fun _ ts2 _ h2=>.bnd (qxd h2) fun _ ts3 _ h3=>.bnd (qwz h3) fun b ts4 hb h4=>
  .ret (qzw (qqx (by decide) hs .zero) (qz0 ha.well (qz0 hb.well qzx))) h4) fun _=>?_
 exact .bnd (qxd h) fun _ ts1 _ h1=>.bnd (expr_w h1) fun x ts2 hx h2=>.ret (qzw (qqx (by decide) hs .zero) (qz0 hx qzx)) h2
variable {block:List Tok->PR Tree}(hb:∀ts,AG ts->Okr (block ts) Well)
include hb
theorem branch_w {k at_:Int}(hk:k=15\/k=16)(h:AG ts):Okr (zkx block k at_ ts) fun x=>∃s p ks,x=.node k s 0 p ks/\(s=sLt\/s=sLe\/s=sEq2)/\qkl ks:=by
 refine .bnd (fact_w h) fun n ts1 hn h1=>.bnd (hb _ h1) fun b ts2 hbl h2=>?_
 obtain⟨s,p,ks,rfl,hs,hks⟩:=hn;exact .ret ⟨s,at_,ks++[b],rfl,hs,qvq hks (qz0 hbl qzx)⟩ h2
theorem stmt_w (h:AG ts):Okr (stmt block ts) Well:=by
 refine .ite (fun _=>.bnd (qxc h.tail) fun n ts' hn hg=>?_) fun _=>?_
 ·obtain⟨s,p,rfl,hs⟩:=hn;exact qwb (qzw (qqx (by decide) hs .zero) qzx) hg
 refine .ite (fun _=>.bnd (nameAt_w (by decide) h.tail) fun n ts' hn hg=>?_) fun _=>?_
 ·obtain⟨s,v,p,rfl,hs,hv⟩:=hn;exact qwb (qzw (qqx (by decide) hs hv) qzx) hg
 refine .ite (fun _=>.bnd (nameAt_w (by decide) h.tail) fun n ts' hn hg=>?_) fun _=>?_
 ·obtain⟨s,v,p,rfl,hs,hv⟩:=hn;exact qwb (qzw (qqx (by decide) hs hv) qzx) hg
 refine .ite (fun _=>.bnd (branch_w hb (.inl rfl) h.tail) fun n ts' hn hg=>?_) fun _=>?_
 · obtain⟨s,p,ks,rfl,hs,hks⟩:=hn
   exact .ite (fun _=>.bnd (hb _ hg.tail) fun b ts2 hbl h2=>.ret (qzw (zvm (.inr (.inl rfl)) hs .zero) (qvq hks (qz0 hbl qzx))) h2) fun _=>
    .ret (qzw (zvm (.inr (.inl rfl)) hs .zero) (qvq hks (qz0 (qzw (qqy (by decide) .zero) qzx) qzx))) hg
 refine .ite (fun _=>(branch_w hb (.inr rfl) h.tail).mono fun x hx=>?_) fun _=>?_
 ·obtain⟨s,p,ks,rfl,hs,hks⟩:=hx;exact qzw (zvm (.inr (.inr rfl)) hs .zero) hks
 refine .ite (fun _=>.ite (fun _=>qwb (qzw (qqy (by decide) .zero) qzx) h.tail) fun _=>.bnd (qwz h.tail) fun x ts' hx hg=>qwb (qzw (qqy (by decide) .zero) (qz0 hx.well qzx)) hg) fun _=>?_
 refine .ite (fun _=>qwb (qzw (qqy (by decide) .zero) qzx) h.tail) fun _=>?_
 refine .ite (fun _=>.bnd (qxc h.tail) fun n ts' hn hg=>.bnd (args_w hg) fun xs ts2 hx h2=>?_) fun _=>?_
 ·obtain⟨s,p,rfl,hs⟩:=hn;exact qwb (qzw (qqx (by decide) hs .zero) hx) h2
 exact .bnd (qxc h) fun n ts1 hn h1=>.bnd (named_w hn h1) fun x ts2 hx h2=>qwb hx h2
end
theorem stmts_w {one:List Tok->PR Tree}(ho:∀ts,AG ts->Okr (one ts) Well):∀(n:Nat) (ts:List Tok),ts.length<=n->AG ts->Okr (stmts one ts) qkl
 |n,ts,hn,h=>by
  rw[stmts]
  refine .ite (fun _=>.ret qzx h.tail) fun _=>?_
  cases e:one ts with
  |error _=>exact .err
  |ok p=>
   obtain⟨x,ts'⟩:=p;obtain⟨h1,h2⟩:=ho _ h _ _ e
   refine .ite (fun hl=>?_) fun _=>.err
   match n,hn with
   |0,hn=>omega
   |n+1,hn=>exact .bnd (stmts_w ho n ts' (by omega) h2) fun xs ts'' hx hg=>.ret (qz0 h1 hx) hg
theorem block_w:∀(n:Nat) (ts:List Tok),AG ts->Okr (block n ts) Well
 |0,ts,h=>.ite (fun _=>.flt) fun _=>.flt
 |n+1,ts,h=>.bnd (qxd h) fun _ ts1 _ h1=>.bnd (stmts_w (fun ts h=>stmt_w (block_w n) h) _ _ (Nat.le_refl _) h1) fun xs ts2 hx h2=>.ret (qzw (qqy (by decide) .zero) hx) h2
theorem fn_w {at_:Int}{ts:List Tok}(h:AG ts):Okr (fn at_ ts) Well:=by
 refine .bnd (qxc h) fun n ts1 hn h1=>.bnd (P:=qkl) ?_ fun ps ts2 hp h2=>.bnd (P:=Well) ?_ fun r ts3 hr h3=>.bnd (block_w 8 _ h3) fun b ts4 hb h4=>?_
 ·exact .bnd (qxd h1) fun _ ts2 _ h2=>.ite (fun _=>.ret qzx h2.tail) fun _=>.bnd (list_w (fun ts h=>param_w h) h2) fun xs ts3 hx h3=>.bnd (qxd h3) fun _ ts4 _ h4=>.ret hx h4
 ·exact .ite (fun _=>.ite (fun _=>.flt) fun _=>mode_w h2.tail) fun _=>.ret (qzw (qqy (by decide) .zero) qzx) h2
 ·obtain⟨s,p,rfl,hs⟩:=hn;exact .ret (qzw (qqx (by decide) hs .zero) (qvq hp (qz0 hr (qz0 hb qzx)))) h4
theorem item_w {ts:List Tok}(h:AG ts):Okr (item ts) Well:=
 .ite (fun _=>fn_w h.tail) fun _=>.bnd (qxd h) fun _ ts1 _ h1=>typ_w h1
theorem items_w:∀(n:Nat) (ts:List Tok),ts.length<=n->AG ts->Okr (zx6 ts) qkl
 |n,ts,hn,h=>by
  rw[zx6]
  refine .ite (fun _=>.ret qzx h) fun _=>?_
  cases e:item ts with
  |error _=>exact .err
  |ok p=>
   obtain⟨x,ts'⟩:=p;obtain⟨h1,h2⟩:=item_w h _ _ e
   refine .ite (fun hl=>?_) fun _=>.err
   match n,hn with
   |0,hn=>omega
   |n+1,hn=>exact .bnd (items_w n ts' (by omega) h2) fun xs ts'' hx hg=>.ret (qz0 h1 hx) hg
theorem tw_all (p:UInt8->Bool):∀l:Bs,(l.takeWhile p).all p=true
 |[]=>rfl
 |x::l=>by
  rw[List.takeWhile_cons];split
  ·rename_i h;rw[List.all_cons,h,tw_all p l];rfl
  ·rfl
theorem name_tok {b:UInt8}{r:Bs}(hl:zzz b=true)(h16:¬16<((b::r).takeWhile qq8).length)(hk:isKey ((b::r).takeWhile qq8)=false):qvi ((b::r).takeWhile qq8)=true:=by
 have hw:qq8 b=true:=by unfold qq8;rw[hl];rfl
 have ha:=tw_all qq8 (b::r)
 have e:(b::r).takeWhile qq8=b::r.takeWhile qq8:=by rw[List.takeWhile_cons,if_pos hw]
 unfold qvi;rw[hk,ha,e];rw[e]at h16
 rw[show zv1 (b::r.takeWhile qq8)=zzz b from rfl,hl,decide_eq_true (by omega:(b::r.takeWhile qq8).length<=16)]
 rfl
theorem tokAt_GT {p:Int}{l:Bs}{t:Tok}(h:tokAt p l=.ok t):GT t:=by
 unfold tokAt at h;split at h
 ·cases h
 · rename_i b r;split at h
   · split at h
     ·cases h
     · rename_i h1;cases h;simp only[Bool.or_eq_true,decide_eq_true_eq,not_or]at h1;obtain⟨⟨h1,_⟩,_⟩:=h1
       refine⟨fun e=>absurd e (by decide:(3:Int)≠1),fun _=>?_⟩
       show 0<=((dec _:Nat):Int)/\((dec _:Nat):Int)<=1099511627776
       omega
   · split at h
     · rename_i hl;split at h
       ·cases h
       · rename_i h16;cases h
         cases hk:isKey ((b::r).takeWhile qq8)with
         |true=>exact⟨fun e=>absurd e (by simp),fun e=>absurd e (by simp)⟩
         |false=>exact⟨fun _=>name_tok hl h16 hk,fun e=>absurd e (by simp)⟩
     · split at h
       ·cases h
       ·cases h;exact⟨fun e=>absurd e (by decide:(4:Int)≠1),fun e=>absurd e (by decide:(4:Int)≠3)⟩
theorem lex_AG:∀(n:Nat) (p:Int) (l:Bs),l.length<=n->∀ts,lex p l=.ok ts->AG ts
 |n,p,[],_,ts,h=>by
  rw[lex]at h;cases h;intro t ht;rw[List.mem_singleton]at ht;subst ht
  exact⟨fun e=>absurd e (by decide:(0:Int)≠1),fun e=>absurd e (by decide:(0:Int)≠3)⟩
 |0,p,b::r,hn,ts,h=>by simp at hn
 |n+1,p,b::r,hn,ts,h=>by
  simp only[lB]at hn;rw[lex]at h;split at h
  ·exact lex_AG n _ r (by omega) ts h
  · split at h
    ·have:=qwc (· != 10) r;exact lex_AG n _ _ (by omega) ts h
    · split at h
      ·cases h
      · rename_i t ht;split at h
        ·cases h
        · rename_i ts' hts;cases h;have:=lex_AG n _ _ (by rw[List.length_drop];omega) ts' hts;intro u hu
          rcases List.mem_cons.1 hu with rfl|hu
          ·exact tokAt_GT ht
          ·exact this u hu
theorem parse_well {l:Bs}{t:Tree}(h:zjy l=.ok t):Well t/\size t<=4096:=by
 unfold zjy at h;split at h
 ·cases h
 · rename_i ts hts
   have hg:AG ts:=by
    unfold toks at hts;split at hts
    ·cases hts
    ·exact lex_AG _ _ _ (Nat.le_refl _) ts hts
   unfold qv2 at h;split at h
   ·cases h
   · rename_i ks ts' hks;split at h
     ·cases h
     · rename_i hsz;cases h
       exact⟨qzw (qqy (by decide) .zero) (items_w _ _ (Nat.le_refl _) hg _ _ hks).1,by omega⟩
structure Ty where
 name:Bs
 sort:Int
 of:Int
 fields:List (Bs×Int)
 facts:List (Int×Int×Int)
def idxF {α:Type}(p:α->Bool):List α->Nat->Int
 |[],_=> -1
 |x::xs,i=>if p x then i else idxF p xs (i+1)
theorem qjx {α:Type}(p:α->Bool):∀(l:List α) (i:Nat),idxF p l i= -1\/(i:Int)<=idxF p l i/\idxF p l i<i+l.length
 |[],i=>.inl rfl
 |x::xs,i=>by
  unfold idxF;split
  ·right;simp;omega
  · rcases qjx p xs (i+1)with h|⟨h1,h2⟩
    ·exact .inl h
    ·right;simp only[lB];omega
theorem idxF_hit {α:Type}(p:α->Bool):∀(l:List α) (i j:Nat) (h:idxF p l i=(i+j:Nat)),∃hj:j<l.length,p l[j]=true
 |[],i,j,h=>by unfold idxF at h;omega
 |x::xs,i,j,h=>by
  unfold idxF at h;split at h
  · rename_i hp
    have:j=0:=by omega
    subst this
    exact⟨by simp,hp⟩
  · cases j with
    |zero=>rcases qjx p xs (i+1)with h'|⟨h1,h2⟩<;>omega
    |succ j=>
     obtain⟨h1,h2⟩:=idxF_hit p xs (i+1) j (by rw[h];congr 1;omega)
     exact⟨by simp;omega,h2⟩
theorem idxF_any {α:Type}(p:α->Bool):∀(l:List α) (i:Nat),decide (0<=idxF p l i)=l.any p
 |[],i=>rfl
 |x::xs,i=>by
  unfold idxF
  cases h:p x with
  |true=>simp[h]
  |false=>rw[if_neg (by simp)];rw[idxF_any p xs (i+1)];simp[h]
def qkv (t:List Ty)(s:Bs):Int:=idxF (fun x=>x.name==s) t 0
def numb (s:Bs)(l:List Tree):Int:=idxF (fun n=>n.text==s&&n.kids.isEmpty) l 0
def namedT (l:List Tree)(s:Bs):Bool:=l.any fun n=>n.text==s
def sorts:List Bs:=[sOwn,sCell,zvh,sLock,sGuard]
def qxf (s:Bs):Int:=idxF (fun x=>x==s) sorts 0
def cmpF (w:Int->Int)(op:Bs)(a b k l:Int):List (Int×Int×Int):=
 if op=sLt then [(a,b,w (w (l-k)-1))]
 else if op=sLe then [(a,b,w (l-k))]
 else if op=sEq2 then [(a,b,w (l-k)),(b,a,w (k-l))]
 else []
def zza (k:Tree):Bool:=k.kind==3
def isFct (k:Tree):Bool:=k.kind==4
def kid0 (n:Tree):Tree:=n.kids.headD (.node 0 [] 0 0 [])
def kid1 (n:Tree):Tree:=n.kids.tail.headD (.node 0 [] 0 0 [])
abbrev SR (α:Type):=Except (Int×Int) α
def sbnd {α β:Type}(x:SR α)(f:α->SR β):SR β:=match x with
 |.error e=>.error e
 |.ok a=>f a
def fieldAt (own:Bool)(all:List Tree)(i:Nat)(f:Tree):SR (Bs×Int):=
 if namedT (all.take i) f.text then .error (f.pos,30)
 else if f.kids.isEmpty then .ok (f.text, -1)
 else if own&&decide (0<=numb (kid0 f).text all)then .ok (f.text,numb (kid0 f).text all)
 else .error (f.pos,32)
def zqq (own:Bool)(all:List Tree):Nat->List Tree->SR (List (Bs×Int))
 |_,[]=>.ok []
 |i,f::fs=>sbnd (fieldAt own all i f) fun x=>sbnd (zqq own all (i+1) fs) fun xs=>.ok (x::xs)
def sortR (t:List Ty)(s:Tree)(fl fc:List Tree):SR (Int×Int):=
 if qxf s.text=2\/qxf s.text=3 then
  if 0<=numb (kid0 s).text fl then .ok (qxf s.text,numb (kid0 s).text fl)else .error (s.pos,32)
 else if qxf s.text=4 then
  if 0<=qkv t (kid0 s).text/\(t[(qkv t (kid0 s).text).toNat]?).map Ty.sort=some 3 then
   if fl.length+fc.length=0 then .ok (4,qkv t (kid0 s).text)else .error (s.pos,32)
  else .error (s.pos,31)
 else .ok (qxf s.text,0)
def zv9 (k o:Int)(fl:List Tree)(n x:Tree):SR Int:=
 if x.text=[]then .ok 0
 else if 0<=numb x.text fl/\¬((k=2\/k=3)/\numb x.text fl=o)then .ok (numb x.text fl+1)
 else .error (n.pos,33)
def factR (k o:Int)(fl:List Tree)(n:Tree):SR (List (Int×Int×Int)):=
 sbnd (zv9 k o fl n (kid0 n)) fun a=>sbnd (zv9 k o fl n (kid1 n)) fun b=>.ok (cmpF id n.text a b (kid0 n).num (kid1 n).num)
def zq2 (k o:Int)(fl:List Tree):List Tree->SR (List (Int×Int×Int))
 |[]=>.ok []
 |n::ns=>sbnd (factR k o fl n) fun xs=>sbnd (zq2 k o fl ns) fun ys=>.ok (xs++ys)
def typR (t:List Ty)(n:Tree):SR Ty:=
 if 0<=qkv t n.text then .error (n.pos,30)
 else if 8<(n.kids.filter zza).length then .error (n.pos,22)
 else sbnd (zqq ((kid0 n).text==sOwn) (n.kids.filter zza) 0 (n.kids.filter zza)) fun fs=>
  sbnd (sortR t (kid0 n) (n.kids.filter zza) (n.kids.filter isFct)) fun so=>
   sbnd (zq2 so.1 so.2 (n.kids.filter zza) (n.kids.filter isFct)) fun xs=>.ok ⟨n.text,so.1,so.2,fs,xs⟩
def qj9 (t:List Ty):List Tree->SR (List Ty)
 |[]=>.ok t
 |n::ns=>if n.kind=1 then sbnd (typR t n) fun x=>qj9 (t++[x]) ns else qj9 t ns
def IsSo (s:Tree):Prop:=qxf s.text=2\/qxf s.text=3\/qxf s.text=4->s.kids≠[]
def IsFc (n:Tree):Prop:=∃a b,n.kids=[a,b]/\Bd a.num/\Bd b.num
def IsTy (n:Tree):Prop:=(∃s r,n.kids=s::r/\IsSo s)/\∀k∈n.kids,k.kind=4->IsFc k
def Tops (n:Tree):Prop:=∀k∈n.kids,k.kind=1->IsTy k
section
variable {ts:List Tok}
theorem sort_s (h:AG ts):Okr (sort ts) fun s=>s.kind=2/\IsSo s:=by
 unfold sort
 refine .ite (fun h1=>.ret ⟨rfl,fun e=>?_⟩ h.tail) fun _=>.ite (fun h1=>.ret ⟨rfl,fun e=>?_⟩ h.tail) fun _=>.ite (fun _=>.bnd (qxc h.tail) fun k ts1 _ hg=>.ret ⟨rfl,fun _=>by simp[Tree.kids]⟩ hg) fun _=>.flt
 · have h2:(hd ts).text=sOwn:=by simp only[isT,Bool.and_eq_true,beq_iff_eq]at h1;exact h1.2
   simp only[Tree.text,h2]at e;exact absurd e (by decide)
 · have h2:(hd ts).text=sCell:=by simp only[isT,Bool.and_eq_true,beq_iff_eq]at h1;exact h1.2
   simp only[Tree.text,h2]at e;exact absurd e (by decide)
theorem term_bd {x:Tree}(h:IsT x):Bd x.num:=by obtain⟨s,n,p,rfl,_,hb⟩:=h;exact hb
theorem fact_s (h:AG ts):Okr (fact ts) fun n=>n.kind=4/\IsFc n:=
 .bnd (qwz h) fun a ts1 ha h1=>.bnd (cmp_w h1) fun op ts2 _ h2=>.bnd (qwz h2) fun b ts3 hb h3=>.ret ⟨rfl,a,b,rfl,term_bd ha,term_bd hb⟩ h3
theorem field_s (h:AG ts):Okr (field ts) fun n=>n.kind=3:=by
 unfold field
 refine .bnd (qxc h) fun n ts1 hn h1=>?_
 obtain⟨s,p,rfl,_⟩:=hn
 exact .ite (fun _=>.bnd (qxc h1.tail) fun k ts2 _ h2=>.bnd (qxd h2) fun _ ts3 _ h3=>.ret rfl h3) fun _=>.ret rfl h1
theorem listTail_s {P:Tree->Prop}{one:List Tok->PR Tree}(ho:∀ts,AG ts->Okr (one ts) P):∀(n:Nat) (ts:List Tok),ts.length<=n->AG ts->Okr (qxj one ts) fun xs=>∀x∈xs,P x:=by
 intro n
 induction n with
 |zero=>
  intro ts hl hg;have:ts=[]:=List.eq_nil_of_length_eq_zero (by omega);subst this;unfold qxj;rw[if_neg (by decide)];exact .ret (by simp) hg
 |succ n ih=>
  intro ts hl hg;unfold qxj
  refine .ite (fun _=>?_) fun _=>.ret (by simp) hg
  have h1:=ho _ hg.tail
  cases e:one ts.tail with
  |error q=>exact .err
  |ok q=>
   obtain⟨x,ts'⟩:=q;obtain⟨hx,hg'⟩:=h1 _ _ e;simp only
   refine .ite (fun hlt=>.bnd (ih ts' (by omega) hg') fun xs ts2 hxs h2=>.ret ?_ h2) fun _=>.err
   intro y hy
   cases hy with
   |head=>exact hx
   |tail _ hy=>exact hxs y hy
theorem list_s {P:Tree->Prop}{one:List Tok->PR Tree}(ho:∀ts,AG ts->Okr (one ts) P)(h:AG ts):Okr (list one ts) fun xs=>∀x∈xs,P x:=
 .bnd (ho _ h) fun x ts1 hx h1=>.bnd (listTail_s ho _ ts1 (Nat.le_refl _) h1) fun xs ts2 hxs h2=>.ret (by
  intro y hy
  cases hy with
  |head=>exact hx
  |tail _ hy=>exact hxs y hy) h2
theorem zj2 {s:Bs}{p:Int}{ks:List Tree}(hk:IsTy (.node 1 s 0 p ks))(h:AG ts):Okr (qxw (.node 1 s 0 p ks) ts) fun n=>n.kind=1/\IsTy n:=by
 unfold qxw
 refine .ite (fun _=>.bnd (list_s (P:=fun n=>n.kind=4/\IsFc n) (fun _ h=>fact_s h) h.tail) fun fs ts1 hfs h1=>.bnd (qxd h1) fun _ ts2 _ h2=>.ret ⟨rfl,?_⟩ h2) fun _=>.bnd (qxd h) fun _ ts2 _ h2=>.ret ⟨rfl,hk⟩ h2
 obtain⟨⟨so,r,e,hso⟩,hf⟩:=hk;simp only[Tree.kids]at e;subst e
 refine⟨⟨so,r++fs,rfl,hso⟩,fun k hk h4=>?_⟩
 have hk:k∈(so::r)++fs:=hk
 rcases List.mem_append.1 hk with hk|hk
 ·exact hf k hk h4
 ·exact(hfs k hk).2
theorem typ_s {at_:Int}(h:AG ts):Okr (typ at_ ts) fun n=>n.kind=1/\IsTy n:=by
 unfold typ
 refine .bnd (qxc h) fun n ts1 _ h1=>.bnd (sort_s h1) fun s ts2 hs h2=>.ite (fun _=>.bnd (list_s (P:=fun n=>n.kind=3) (fun _ h=>field_s h) h2.tail) fun fs ts3 hfs h3=>.bnd (qxd h3) fun _ ts4 _ h4=>zj2 ?_ h4) fun _=>zj2 ?_ h2
 · refine⟨⟨s,fs,rfl,hs.2⟩,fun k hk h4=>?_⟩
   have hk:k∈s::fs:=hk
   cases hk with
   |head=>have:=hs.1;omega
   |tail _ hk=>have:=hfs k hk;omega
 · refine⟨⟨s,[],rfl,hs.2⟩,fun k hk h4=>?_⟩
   have hk:k∈[s]:=hk;simp only[List.mem_singleton]at hk;subst hk;have:=hs.1;omega
theorem fn_s {at_:Int}(h:AG ts):Okr (fn at_ ts) fun n=>n.kind=6:=by
 have hw:=fn_w (at_:=at_) h;intro x ts' e;refine⟨?_,(hw x ts' e).2⟩;unfold fn at e;obtain⟨_,_,_,e⟩:=qzs e;obtain⟨_,_,_,e⟩:=qzs e;obtain⟨_,_,_,e⟩:=qzs e;obtain⟨_,_,_,e⟩:=qzs e;obtain⟨rfl,rfl⟩:=qqg e;rfl
theorem item_s (h:AG ts):Okr (item ts) fun n=>n.kind=1->IsTy n:=by
 unfold item
 refine .ite (fun _=>(fn_s h.tail).mono fun n hn e=>?_) fun _=>.bnd (qxd h) fun _ ts1 _ h1=>(typ_s h1).mono fun n hn _=>hn.2
 rw[hn]at e;exact absurd e (by decide)
end
theorem items_s:∀(n:Nat) (ts:List Tok),ts.length<=n->AG ts->Okr (zx6 ts) fun xs=>∀x∈xs,x.kind=1->IsTy x:=by
 intro n
 induction n with
 |zero=>
  intro ts hl hg;have:ts=[]:=List.eq_nil_of_length_eq_zero (by omega);subst this;unfold zx6;rw[if_pos (by decide)];exact .ret (by simp) hg
 |succ n ih=>
  intro ts hl hg;unfold zx6
  refine .ite (fun _=>.ret (by simp) hg) fun _=>?_
  have h1:=item_s hg
  cases e:item ts with
  |error q=>exact .err
  |ok q=>
   obtain⟨x,ts'⟩:=q;obtain⟨hx,hg'⟩:=h1 _ _ e;simp only
   refine .ite (fun hlt=>.bnd (ih ts' (by omega) hg') fun xs ts2 hxs h2=>.ret ?_ h2) fun _=>.err
   intro y hy
   cases hy with
   |head=>exact hx
   |tail _ hy=>exact hxs y hy
theorem parse_tops {l:Bs}{t:Tree}(h:zjy l=.ok t):Tops t:=by
 unfold zjy at h;split at h
 ·cases h
 · rename_i ts e;unfold qv2 at h
   have hg:AG ts:=by
    unfold toks at e;split at e
    ·cases e
    ·exact lex_AG _ _ _ (Nat.le_refl _) ts e
   split at h
   ·cases h
   · rename_i ks ts' e2;obtain⟨h1,_⟩:=items_s _ ts (Nat.le_refl _) hg _ _ e2;split at h
     ·cases h
     ·simp only[Except.ok.injEq]at h;subst h;exact h1
structure Sym where
 kind:Int
 var:Int
 k:Int
 block:Int
deriving DecidableEq
structure Chk where
 origin:Int
 typ:Int
 at_:Int
 live:Bool
 held:Bool
 array:Bool
 size:Sym
 cells:List Sym
structure Hp where
 chunks:List Chk
 vars:Int
 facts:List (Int×Int×Int)
def zSym:Sym:=⟨0,0,0,0⟩
def nSym (v:Int):Sym:=⟨1,v,0,0⟩
abbrev HR (α:Type):=Except Int α
def hbnd {α β:Type}(x:HR α)(f:α->HR β):HR β:=match x with
 |.error e=>.error e
 |.ok a=>f a
def Hp.assume (h:Hp)(fs:List (Int×Int×Int)):HR Hp:=if 768<h.facts.length+fs.length then .error 22 else .ok {h with facts:=h.facts++fs}
def Hp.fresh (h:Hp):HR (Sym×Hp):=
 if 96<=h.vars then .error 22
 else hbnd (h.assume [(h.vars,0,1099511627776),(0,h.vars,1099511627776)]) fun h'=>.ok (nSym h.vars,{h' with vars:=h.vars+1})
def Hp.put (h:Hp)(c:Chk):Sym×Hp:=(⟨2,0,0,h.chunks.length⟩,{h with chunks:=h.chunks++[c]})
def side (cells:List Sym)(v:Int):Int×Int:=
 if v=0 then(0,0)else match cells[(v-1).toNat]? with
 |some s=>if s.kind=1 then(s.var,s.k)else(0,0)
 |none=>(0,0)
def over (facts:List (Int×Int×Int))(cells:List Sym):List (Int×Int×Int):=
 facts.map fun f=>((side cells f.1).1,(side cells f.2.1).1,f.2.2-(side cells f.1).2+(side cells f.2.1).2)
def qx9 (mode sort:Int):Int:=
 if sort=0 then(if mode=2 then 1 else if mode=3 then 3 else if mode=4 then 2 else 0)
 else if sort=1 then(if mode=2 then 1 else 4)
 else if sort=2 then 5
 else 6
def qk0 (out:Int):Nat->List (Bs×Int)->Hp->HR (List Sym×Hp)
 |_,[],h=>.ok ([],h)
 |i,f::fs,h=>
  if f.2<0/\¬(i:Int)=out then hbnd h.fresh fun p=>hbnd (qk0 out (i+1) fs p.2) fun q=>.ok (p.1::q.1,q.2)
  else hbnd (qk0 out (i+1) fs h) fun q=>.ok (zSym::q.1,q.2)
def setCell (h:Hp)(b:Nat)(i:Nat)(s:Sym):Hp:=match h.chunks[b]? with
 |some c=>{h with chunks:=h.chunks.set b {c with cells:=c.cells.set i s}}
 |none=>h
def qxb (h:Hp)(b:Nat)(i:Int):Sym:=((h.chunks[b]?.map Chk.cells).getD [])[i.toNat]?.getD zSym
def qje (b:Nat)(kind:Int):Nat->List (Bs×Int)->Hp->HR Hp
 |_,[],h=>.ok h
 |i,f::fs,h=>
  if f.2<0 then qje b kind (i+1) fs h
  else
   let size:=qxb h b f.2
   let p:=h.put ⟨kind, -1, -1,true,false,true,size,[]⟩
   hbnd ((setCell p.2 b i p.1).assume [(0,size.var,0),(size.var,0,256)]) fun h'=>qje b kind (i+1) fs h'
structure Par where
 name:Bs
 mode:Int
 typ:Int
structure Sg where
 name:Bs
 params:List Par
 ret:Par
def noTy:Ty:=⟨[],0,0,[],[]⟩
def tyAt (t:List Ty)(i:Int):Ty:=t[i.toNat]?.getD noTy
def zkz (p:Par)(t:List Ty)(h:Hp):HR ((Sym×Sym)×Hp):=
 let o:=qx9 p.mode (tyAt t p.typ).sort
 let held:=(tyAt t p.typ).sort==4
 let num:=if held then(tyAt t p.typ).of else p.typ
 let ty:=tyAt t num
 let at_:=if ty.sort=2\/ty.sort=3 then ty.of else -1
 if o=6/\held=false then
  let q:=h.put ⟨o,num,at_,true,held,false,zSym,List.replicate ty.fields.length zSym⟩
  .ok ((q.1,zSym),q.2)
 else
  hbnd (qk0 (if held then at_ else -1) 0 ty.fields h) fun c=>
  hbnd (c.2.assume (over ty.facts c.1)) fun h1=>
  let count:=if o=5 then c.1[at_.toNat]?.getD zSym else zSym
  hbnd (if o=5 then h1.assume [(0,count.var, -1)]else .ok h1) fun h2=>
  let q:=h2.put ⟨o,num,at_,true,held,false,zSym,c.1⟩
  hbnd (qje h2.chunks.length (if o=3 then 8 else 7) 0 ty.fields q.2) fun h3=>.ok ((q.1,count),h3)
structure Sta where
 heap:Hp
 vars:List (Bs×Sym)
 blocks:List Int
 counts:List Sym
def paramR (t:List Ty)(s:Sta)(p:Par):HR Sta:=
 if p.mode=1 then hbnd s.heap.fresh fun q=>.ok ⟨q.2,s.vars++[(p.name,q.1)],s.blocks++[-1],s.counts++[zSym]⟩
 else hbnd (zkz p t s.heap) fun q=>.ok ⟨q.2,s.vars++[(p.name,q.1.1)],s.blocks++[q.1.1.block],s.counts++[q.1.2]⟩
def qkk (t:List Ty):List Par->Sta->HR Sta
 |[],s=>.ok s
 |p::ps,s=>hbnd (paramR t s p) fun s=>qkk t ps s
def beginR (g:Sg)(t:List Ty):HR Sta:=qkk t g.params ⟨⟨[],1,[]⟩,[],[],[]⟩
end Lg
