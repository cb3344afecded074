import Derived.Test.YtkknljojdgpdaaaGreatDoorA03
import Derived.MapKept
set_option maxHeartbeats 32000000
set_option linter.unusedSimpArgs false
set_option linter.unusedVariables false
namespace Lx
open Go
section
variable {P:Program}{E:Env}{z:Bg}{g:Gh}{ds:List Deferred}{s:S}{a:Act}{w:World}
theorem qk4 {t:TypeId}{i:TI}(ht:TOK P E.tl)(hi:E.ti t=some i){B o:Nat}{c:Array Value}{ty:TypeId}(hB:w.heap[B]?=some (.cells c ty (0,0))){v:Value}{us:List Value}(hv:v.cells=us.toArray)
  (hs:us.length=i.size)(hle:o+us.length<=c.size)(h1:∀u∈us,u.oneCell'=true):
  (Instr.storeAt t (.pointer (some ⟨B,o,none⟩)) v).run P w=.ok () (w.setRow B (c.toList.take o++us++c.toList.drop (o+us.length)).toArray):=by
 have hst:=run_storeCells_at P B o ty us 0 c w hB (by simpa using hle) h1;simp only[Nat.add_zero]at hst;simp only[Instr.storeAt,Instr.sureAddr,Sem.run_bind,Sem.run_pure,Result.andThen_ok,storeVar,ht.sizeOf hi,hv];rw[if_neg (by simp[hs])];exact hst
theorem stP_rp {i:TI}{off:Nat}{x:LV}{v:Value}(hx:LRp g x v){cells cs:List LV}{vs:List Value}(hc:LRps g cells vs)(hv1:∀u∈vs,u.oneCell'=true)(h:stP i off x cells=some cs):
  ∃us,v.cells=us.toArray/\us.length=i.size/\off+us.length<=vs.length/\(∀u∈us,u.oneCell'=true)/\LRps g cs (vs.take off++us++vs.drop (off+us.length))/\
   ∀u∈vs.take off++us++vs.drop (off+us.length),u.oneCell'=true:=by
 unfold stP at h;split at h
 · rename_i ps hp;have hps:=pcs_rp hx hp;have hl:=hps.length;have hlc:=hc.length;split at h
   · rename_i hcond;obtain⟨h1,h2,h3⟩:=hcond;simp only[Option.some.injEq]at h;subst h
     refine⟨v.cells.toList,by simp,by omega,by omega,zwr hps h3,?_,?_⟩
     ·rw[<-hl];exact((hc.take off).append hps).append (hc.drop _)
     · intro u hu;simp only[List.mem_append]at hu
       rcases hu with(hu|hu)|hu
       ·exact hv1 u (List.mem_of_mem_take hu)
       ·exact zwr hps h3 u hu
       ·exact hv1 u (List.mem_of_mem_drop hu)
   ·cases h
 ·cases h
theorem Rps.set {Φ:Nat->Nat->Option Value}{es:List D}{vs:List Value}(h:Rps Φ es vs)(n:Nat){x:D}{v:Value}(hx:Rp Φ x v):Rps Φ (es.set n x) (vs.set n v):=by
 induction es generalizing vs n with
 |nil=>cases h;simpa using .nil
 |cons d es ih=>
  cases h with
  |cons a t=>cases n with
   |zero=>exact .cons hx t
   |succ n=>exact .cons a (ih t n)
theorem qwh.set {Φ:Nat->Nat->Option Value}{sz cap:Nat}{xs:List D}{us:List Value}{c:Array Value}(q1:Rps Φ xs us)(q3:c.size=cap*sz)(q4:xs.length<=cap)(q5:0<sz)(q6:cap<=maxLen)
  (q7:∀(i:Nat) (u:Value),us[i]?=some u->u.cells.size=sz/\(∀v∈u.cells,v.oneCell'=true)/\∀(j:Nat) (x:Value),u.cells[j]?=some x->c[i*sz+j]?=some x)
  {j:Nat}(hj:j<xs.length){y:D}{v:Value}(hy:Rp Φ y v)(e1:v.cells.size=sz)(e2:∀u∈v.cells,u.oneCell'=true):
  j*sz+sz<=c.size/\qwh Φ sz cap (xs.set j y) (c.toList.take (j*sz)++v.cells.toList++c.toList.drop (j*sz+v.cells.toList.length)).toArray:=by
 have hlx:v.cells.toList.length=sz:=by simpa using e1
 have hfit:j*sz+sz<=c.size:=by
  rw[q3];have:(j+1)*sz<=cap*sz:=Nat.mul_le_mul_right _ (by omega);rw[Nat.add_mul]at this;omega
 have hnew:∀k,(c.toList.take (j*sz)++v.cells.toList++c.toList.drop (j*sz+v.cells.toList.length))[k]?=
   if k<j*sz then c[k]? else if k<j*sz+sz then v.cells[k-j*sz]? else c[k]?:=by
  intro k
  have hlt:(c.toList.take (j*sz)).length=j*sz:=by simp;omega
  rw[List.append_assoc,List.getElem?_append,hlt];split
  ·simp[List.getElem?_take, *]
  · rw[List.getElem?_append,hlx];split
    ·rw[if_pos (by omega)];simp
    · rw[if_neg (by omega),List.getElem?_drop]
      rw[show j*sz+sz+(k-j*sz-sz)=k by omega]
      simp
 refine⟨hfit,us.set j v,q1.set j hy,?_,by simpa using q4,q5,q6,fun k u hu=>?_⟩
 ·simp only[List.size_toArray,lC,List.length_take,List.length_drop,hlx,Array.length_toList];omega
 rw[List.getElem?_set]at hu;split at hu
 · rename_i e;subst e;split at hu
   · simp only[Option.some.injEq]at hu;subst hu
     refine⟨e1,fun v hv=>e2 v (by simpa using hv),fun m q hq=>?_⟩
     have hm:m<sz:=by rw[<-e1];exact(Array.getElem?_eq_some_iff.1 hq).1
     rw[List.getElem?_toArray,hnew,if_neg (by omega),if_pos (by omega),show j*sz+m-j*sz=m by omega]
     exact hq
   ·cases hu
 · rename_i e;obtain⟨p1,p2,p3⟩:=q7 k u hu
   refine⟨p1,p2,fun m q hq=>?_⟩
   have hm:m<sz:=by rw[<-p1];exact(Array.getElem?_eq_some_iff.1 hq).1
   rw[List.getElem?_toArray,hnew];have hq':=p3 m q hq
   rcases Nat.lt_or_gt_of_ne e with h'|h'
   ·have:(j+1)*sz<=k*sz:=Nat.mul_le_mul_right _ h';rw[Nat.add_mul]at this;rw[if_neg (by omega),if_neg (by omega)];exact hq'
   ·have:(k+1)*sz<=j*sz:=Nat.mul_le_mul_right _ h';rw[Nat.add_mul]at this;rw[if_pos (by omega)];exact hq'
theorem zj5 (ht:TOK P E.tl)(hR:R z g ds s a w){t:TypeId}{p x:LV}{pv xv:Value}(hpv:LRp g p pv)(hxv:LRp g x xv){K:S->Prop}(h:storK0 E s t p x K):
  ∃g' s' w',K s'/\R z g' ds s' a w'/\(Instr.storeAt t pv xv).run P w=.ok () w':=by
 obtain⟨i,hi,h⟩:=h;split at h
 ·rename_i k off;obtain⟨b,hb,hty,cs,hcs,hK⟩:=h;cases hpv;obtain⟨vs,hvs,hh,hone⟩:=hR.wd.box k b hb;rw[qqq hty]at hh;obtain⟨us,h1,h2,h3,h4,h5,h6⟩:=stP_rp hxv hvs hone hcs;have hset:=Set1.setRow w (g.β k) vs.toArray (vs.take off++us++vs.drop (off+us.length)).toArray b.ty (0,0) hh;refine⟨g,_,_,hK,⟨hR.size,hR.defers,hR.tm,hR.rw.setBox hb (by rw[qqq hty];exact hset) h5 h6⟩,?_⟩;exact qk4 ht hi hh h1 h2 (by simpa using h3) h4
 · rename_i r sz n j;obtain⟨g1,y,s1,⟨⟨sz',ty,xs⟩,har,h1,hlt,h2,h3,h4,hel,hK⟩,hR1,hl1,hy,hs1⟩:=zv4 hR hxv h;simp only at h1 hlt h3 hK;subst h1
   cases hpv.mono hl1 with
   |ap h0 hp=>
    obtain⟨us,c,q1,q2,q3,q4,q5,q6,q7⟩:=hR1.wd.arr r sz' ty xs har;have hlen1:=hR1.wd.len r;rw[har]at hlen1;have hpe:=(hp _ hlen1).2 h3;subst hpe;have hj:j<xs.length:=h3▸h4;obtain⟨e1,e2⟩:=zwb hy hel
    have hlx:xv.cells.toList.length=sz':=by simpa using e1
    have hset:=Set1.setRow w (g1.α r).1 c (c.toList.take (j*sz')++xv.cells.toList++c.toList.drop (j*sz'+xv.cells.toList.length)).toArray (tyo ty) (0,0) q2;obtain⟨hfit,hcells⟩:=qwh.set (us:=us) q1 q3 q4 q5 q6 q7 hj hy e1 e2;obtain⟨hl2,hw2⟩:=hR1.rw.setArr (xs':=xs.set j y) har hset (by simp) hcells q2 (fun e=>absurd hlt (Nat.not_lt.2 e));refine⟨_,_,_,hK,hR1.turn hl2 hw2,?_⟩;exact qk4 ht hi q2 (by simp) (by rw[hlx];exact h2.symm) (by rw[hlx];simpa using hfit) (fun u hu=>e2 u (by simpa using hu))
 · rename_i r sz n j o _;obtain⟨⟨sz',ty,xs⟩,har,h1,hlt,h2,h3,h4,h⟩:=h;simp only at h1 hlt h3 h;subst h1;split at h
   · rename_i y;obtain⟨ho1,hof,e,he,h⟩:=h;split at h
     · rename_i cs;obtain⟨hoc,hK⟩:=h
       cases hpv with
       |ap h0 hp=>
        cases hxv with
        |d hy=>
         obtain⟨us,c,q1,q2,q3,q4,q5,q6,q7⟩:=hR.wd.arr r sz' ty xs har;have hlen1:=hR.wd.len r;rw[har]at hlen1;have hpe:=(hp _ hlen1).2 h3;subst hpe;have hj:j<xs.length:=h3▸h4;obtain⟨u,hu,hue⟩:=q1.get he
         cases hue with
         | @ag _ vs hvs=>
           obtain⟨p1,p2,p3⟩:=q7 j _ hu
           have p1':vs.length=sz':=by simpa[Value.cells]using p1
           have hlc:=hvs.length;have hx1:xv.oneCell'=true:=zxz (LRp.d (g:=g) hy) ho1
           have e1:(Value.agg (vs.set o xv).toArray).cells.size=sz':=by simpa[Value.cells]using p1'
           have e2:∀u∈(Value.agg (vs.set o xv).toArray).cells,u.oneCell'=true:=by
            intro u hu
            have hu':u∈vs.set o xv:=by simpa[Value.cells]using hu
            rcases List.mem_or_eq_of_mem_set hu' with h'|h'
            ·exact p2 u (by simpa[Value.cells]using h')
            ·subst h';exact hx1
           obtain⟨hfit,hcells⟩:=qwh.set (us:=us) q1 q3 q4 q5 q6 q7 hj (Rp.ag (hvs.set o hy)) e1 e2
           have hA:c.toList=c.toList.take (j*sz')++(vs++c.toList.drop (j*sz'+sz')):=by
            refine List.ext_getElem? fun k=>?_
            have hlt':(c.toList.take (j*sz')).length=j*sz':=by simp;omega
            rw[List.getElem?_append,hlt'];split
            ·simp[List.getElem?_take, *]
            · rw[List.getElem?_append,p1'];split
              · rename_i hk1 hk2;have hv:vs[k-j*sz']?=some vs[k-j*sz']:=lD (by omega);have:=p3 (k-j*sz') (vs[k-j*sz']'(by omega)) (by simp[Value.cells])
                rw[show j*sz'+(k-j*sz')=k by omega]at this
                rw[hv];simpa using this
              ·rw[List.getElem?_drop,show j*sz'+sz'+(k-j*sz'-sz')=k by omega]
           have hrow:c.toList.take (j*sz'+o)++[xv]++c.toList.drop (j*sz'+o+1)=c.toList.take (j*sz')++(Value.agg (vs.set o xv).toArray).cells.toList++c.toList.drop (j*sz'+(Value.agg (vs.set o xv).toArray).cells.toList.length):=by
            have hl1:(Value.agg (vs.set o xv).toArray).cells.toList=vs.set o xv:=by simp[Value.cells]
            rw[hl1,List.length_set,p1']
            have hs1:c.toList.set (j*sz'+o) xv=c.toList.take (j*sz'+o)++[xv]++c.toList.drop (j*sz'+o+1):=by
             rw[List.set_eq_take_append_cons_drop,if_pos (by simp;omega)];simp
            have hs2:(c.toList.take (j*sz')++(vs++c.toList.drop (j*sz'+sz'))).set (j*sz'+o) xv=c.toList.take (j*sz')++(vs.set o xv)++c.toList.drop (j*sz'+sz'):=by
             have hlt':(c.toList.take (j*sz')).length=j*sz':=by simp;omega
             rw[List.set_append_right _ _ (by omega),hlt',show j*sz'+o-j*sz'=o by omega,List.set_append_left _ _ (by omega),List.append_assoc]
            rw[<-hs1,<-hs2,<-hA]
           have hset:=Set1.setRow w (g.α r).1 c (c.toList.take (j*sz')++(Value.agg (vs.set o xv).toArray).cells.toList++c.toList.drop (j*sz'+(Value.agg (vs.set o xv).toArray).cells.toList.length)).toArray (tyo ty) (0,0) q2;obtain⟨hl2,hw2⟩:=hR.rw.setArr (xs':=xs.set j (.ag (cs.set o y))) har hset (by simp) hcells q2 (fun e=>absurd hlt (Nat.not_lt.2 e));refine⟨_,_,_,hK,hR.turn hl2 hw2,?_⟩;rw[<-hrow];exact qk4 (us:=[xv]) ht hi q2 (qkz hx1) (by simpa using h2.symm) (by simp;omega) (by simpa using hx1)
     ·exact h.elim
   ·exact h.elim
 ·exact h.elim
theorem storK_run [Stb E z] (ht:TOK P E.tl)(hR:R z g ds s a w){t:TypeId}{p x:LV}{pv xv:Value}(hpv:LRp g p pv)(hxv:LRp g x xv){K:S->Prop}(h:storK E s t p x K):
  ∃g' s' w',K s'/\R z g' ds s' a w'/\(Instr.storeAt t pv xv).run P w=.ok () w':=by
 unfold storK at h;split at h
 ·rename_i q e;obtain rfl:=LV.sp_eq e;have hp':=hpv.unD;cases hp';have:=LRp.bp (g:=g) (q.1+1000000) q.2;rw[Stb.get h.1 hR.rw]at this;exact zj5 ht hR this hxv h.2
 ·exact zj5 ht hR hpv hxv h
end
def flat (us:List Value):List Value:=us.flatMap fun u=>u.cells.toList
theorem qjd {us:List Value}{sz:Nat}(h:∀u∈us,u.cells.size=sz):(flat us).length=us.length*sz:=by
 induction us with
 |nil=>simp[flat]
 |cons u us ih=>
  have:=ih (fun v hv=>h v (List.mem_cons_of_mem _ hv));have hu:=h u (List.mem_cons_self ..);simp only[flat,List.flatMap_cons,lC,Array.length_toList,hu,lB]at this⊢;rw[this,Nat.add_mul];omega
theorem zz4 {us:List Value}{sz:Nat}(h:∀u∈us,u.cells.size=sz){i:Nat}{u:Value}(hu:us[i]?=some u){j:Nat}{x:Value}(hx:u.cells[j]?=some x):(flat us)[i*sz+j]?=some x:=by
 induction us generalizing i with
 |nil=>simp at hu
 |cons v us ih=>
  have hv:=h v (List.mem_cons_self ..);simp only[flat,List.flatMap_cons]
  cases i with
  |zero=>
   simp only[List.getElem?_cons_zero,Option.some.injEq]at hu;subst hu;have hj:j<v.cells.size:=(Array.getElem?_eq_some_iff.1 hx).1;rw[List.getElem?_append_left (by simp;omega)];simpa using hx
  |succ i=>
   simp only[List.getElem?_cons_succ]at hu;have:=ih (fun v hv=>h v (List.mem_cons_of_mem _ hv)) hu;rw[List.getElem?_append_right (by simp[hv,Nat.add_mul];omega)];simp only[Array.length_toList,hv]
   rw[show(i+1)*sz+j-sz=i*sz+j by rw[Nat.add_mul];omega]
   exact this
theorem qv9 {us:List Value}(h:∀u∈us,∀v∈u.cells,v.oneCell'=true):∀v∈flat us,v.oneCell'=true:=by
 intro v hv;simp only[flat,List.mem_flatMap]at hv;obtain⟨u,hu,hv⟩:=hv;exact h u hu v (by simpa using hv)
theorem fill_seq {sz:Nat}:∀(vs:List Value) (k:Nat) (pre post:List Value),(∀v∈vs,v.cells.size=sz)->pre.length=k*sz->post.length=vs.length*sz->
  Instr.fill (fun i=>some (i*sz,sz)) (pre++post).toArray ((List.range' k vs.length).zip vs)=some (pre++flat vs).toArray
 |[],k,pre,post,_,_,h=>by
   have:post=[]:=List.eq_nil_of_length_eq_zero (by simpa using h);subst this;simp[Instr.fill,flat]
 |v::vs,k,pre,post,hv,hp,h=>by
  have hs:=hv v (List.mem_cons_self ..)
  have hl:v.cells.toList.length=sz:=by simpa using hs
  have hge:sz<=post.length:=by rw[h,lB,Nat.add_mul];omega
  simp only[lB,List.range'_succ,List.zip_cons_cons,Instr.fill];rw[if_neg (by simp[hs,hp];omega)]
  have e:v.cells.zipIdx.foldl (fun cs x=>match x with|(c,j)=>cs.setIfInBounds (k*sz+j) c) (pre++post).toArray=((pre++v.cells.toList)++post.drop sz).toArray:=by
   rw[<-Array.foldl_toList,Array.toList_zipIdx];have:=zqo v.cells.toList 0 (k*sz) pre post (by omega) (by omega);rw[hl]at this;exact this
  rw[e,fill_seq vs (k+1) (pre++v.cells.toList) (post.drop sz) (fun u hu=>hv u (List.mem_cons_of_mem _ hu)) (by simp[hp,hs,Nat.add_mul]) (by simp[h,Nat.add_mul])];simp[flat]
theorem el_all {Φ:Nat->Nat->Option Value}{sz:Nat}:∀{es:List D} {vs:List Value},Rps Φ es vs->es.all (·.el sz)=true->∀v∈vs,v.cells.size=sz/\∀u∈v.cells,u.oneCell'=true
 |[],vs,h,_,v,hv=>by cases h;cases hv
 |e::es,vs,h,ha,v,hv=>by
  cases h with
  |cons h t=>
   simp only[List.all_cons,Bool.and_eq_true]at ha
   cases hv with
   |head=>exact zwb h ha.1
   |tail _ hv=>exact el_all t ha.2 v hv
theorem qwh.flat {Φ:Nat->Nat->Option Value}{sz:Nat}{es:List D}{vs:List Value}(h:Rps Φ es vs)(hv:∀v∈vs,v.cells.size=sz/\∀u∈v.cells,u.oneCell'=true)(h0:0<sz){rest:List Value}{cap:Nat}
  (hc:(Lx.flat vs++rest).length=cap*sz)(hm:cap<=maxLen):qwh Φ sz cap es (Lx.flat vs++rest).toArray:=by
 have hfl:=qjd (fun u hu=>(hv u hu).1)
 refine⟨vs,h,by simpa using hc,?_,h0,hm,fun i u hu=>?_⟩
 · rw[h.length]
   have:vs.length*sz<=cap*sz:=by rw[<-hfl,<-hc];simp
   exact Nat.le_of_mul_le_mul_right this h0
 · have hmem:=List.mem_of_getElem? hu
   refine⟨(hv u hmem).1,(hv u hmem).2,fun j x hj=>?_⟩
   have:=zz4 (fun u hu=>(hv u hu).1) hu hj;have hlt:i*sz+j<(Lx.flat vs).length:=(List.getElem?_eq_some_iff.1 this).1;rw[List.getElem?_toArray,List.getElem?_append_left hlt];exact this
theorem zxk {α β γ:Type}(f:α×β->γ):∀l:List (α×β),(l.map fun p=>(p.1,f p))=(l.map (·.1)).zip (l.map f)
 |[]=>rfl
 |p::l=>by simp[zxk f l]
theorem zjw {P:Program}{t e:TypeId}{n len:Nat}{z:Value}{w:World}(hu:(underlying t).run P w=.ok (.slice e) w)(hs:(Go.sizeOf e).run P w=.ok n w)(hz:(zeroValue e).run P w=.ok z w)(hb:len*n<=16777216)
  {parts:List (Nat×Value)}{cells:Array Value}(hf:∀zs:Array Value,zs.size=len*n->Instr.fill (fun i=>some (i*n,n)) zs parts=some cells):
  (Instr.buildSlice t len parts.toArray).run P w=.ok (.slice (some ⟨w.heap.size,0,none⟩) len len) (w.alloc (.cells cells e)):=by
 have hb':¬(len*n>2^24):=by omega
 unfold Instr.buildSlice;simp only[Sem.run_bind,hu,hs,Result.andThen_ok,if_neg hb',Sem.run_pure];by_cases hz0:len*n=0
 ·simp only[hz0,if_true,Sem.run_bind,Sem.run_pure,Result.andThen_ok];rw[hf _ (by simp[hz0])];simp[newRow]
 ·simp only[if_neg hz0,Sem.run_bind,hz,Sem.run_pure,Result.andThen_ok];rw[hf _ (by simp)];simp[newRow]
section
variable {P:Program}{E:Env}{z:Bg}{g:Gh}{ds:List Deferred}{s:S}{a:Act}{w:World}
theorem naR (hR:R z g ds s a w){d sz cap:Nat}{t:TypeId}{xs:List D}{c:Array Value}{w':World}(hd:d<s.n)(hty:(t:Nat)<1000000)(n:New w w' (.cells c t (0,0)))(hc:qwh g.Φ sz cap xs c):
  R z {g with α:=upd d (w.heap.size,cap) g.α,len:=upd d (some xs.length) g.len} ds (s.na d sz t xs) (a.put (some d) (.slice (some ⟨w.heap.size,0,none⟩) xs.length cap)) w':=by
 obtain⟨hb,hw⟩:=hR.rw.newArr (d:=d) hty n hc
 have hda:d<a.tmps.size:=by rw[hR.size];exact hd
 refine⟨by simp[Act.put,hR.size,S.na],hR.defers,fun k y hk=>?_,hw⟩
 rcases zj9 hk with⟨rfl,rfl⟩|⟨e,hk'⟩
 · refine⟨hd,?_⟩
   have:(a.put (some k) (.slice (some ⟨w.heap.size,0,none⟩) xs.length cap)).tmps.getD k undef=.slice (some ⟨w.heap.size,0,none⟩) xs.length cap:=by simp[Act.put,Array.getD,hda]
   rw[this]
   refine .os rfl fun m hm=>?_
   simp only[qzv,Option.some.injEq]at hm
   exact⟨by omega,fun _=>by simp only[qzv]⟩
 · simp only[mapf,Option.map_eq_some_iff]at hk';obtain⟨y₀,hy₀,rfl⟩:=hk';obtain⟨h3,h4⟩:=hR.tm k y₀ hy₀;refine⟨h3,?_⟩
   have:(a.put (some d) (.slice (some ⟨w.heap.size,0,none⟩) xs.length cap)).tmps.getD k undef=a.tmps.getD k undef:=by
    simp only[Act.put];rw[Array.getD_eq_getD_getElem?,Array.getD_eq_getD_getElem?,Array.getElem?_setIfInBounds,if_neg (fun e'=>e e'.symm)]
   rw[this];exact h4.fgt hb
theorem bslK_run (ht:TOK P E.tl)(hR:R z g ds s a w){d:Option Tmp}{t:TypeId}{len:Nat}{ps:List (Nat×Operand)}{K:S->Prop}(h:bslK E s d t len ps K):
  ∃v g' s' w',(Instr.buildSlice t len (ps.map fun p=>(p.1,a.eval p.2)).toArray).run P w=.ok v w'/\K s'/\R z g' ds s' (a.put d v) w':=by
 obtain⟨ti,hti,h⟩:=h;obtain⟨d0,hd0,hu⟩:=ht.und hti;split at h
 · rename_i e hd;obtain rfl:=qky (hd0.trans hd);obtain⟨te,hte,xs,hxs,h⟩:=h;obtain⟨hl1,hl2,hl3⟩:=zq3 hR hxs;obtain⟨hix,g1,es,s1,⟨hlen,hel,h0,hbig,hty,hK⟩,hR1,hle,hes,hsm⟩:=frzE_run hR hl3 h;have hvs:=el_all hes hel
   have hln:(ps.map fun p=>a.eval p.2).length=len:=by rw[<-hes.length];exact hlen
   have hpl:ps.length=len:=by simpa using hln
   have hparts:(ps.map fun p=>(p.1,a.eval p.2))=(List.range' 0 (ps.map fun p=>a.eval p.2).length).zip (ps.map fun p=>a.eval p.2):=by
    have hfst:ps.map (·.1)=List.range' 0 ps.length:=by
     rw[<-hl1,<-hix];apply List.ext_getElem?;intro n;rw[List.getElem?_map,List.getElem?_map]
     cases hn:xs[n]? with
     |none=>
      have:ps[n]?=none:=by rw[List.getElem?_eq_none_iff]at hn⊢;omega
      simp[this]
     |some q=>
      obtain⟨v,hv,_⟩:=hl2 n q.1 q.2 hn;rw[List.getElem?_map]at hv
      cases hp:ps[n]? with
      |none=>rw[hp]at hv;cases hv
      |some p=>rw[hp]at hv;simp only[Option.map_some,Option.some.injEq,Prod.mk.injEq]at hv⊢;exact hv.1
    rw[lE,<-hfst];exact zxk (fun p=>a.eval p.2) ps
   have hrun:(Instr.buildSlice t len (ps.map fun p=>(p.1,a.eval p.2)).toArray).run P w=
     .ok (.slice (some ⟨w.heap.size,0,none⟩) len len) (w.alloc (.cells (flat (ps.map fun p=>a.eval p.2)).toArray e)):=by
    refine zjw (hu w) (ht.sizeOf hte w) (ht.zero hte w) hbig (fun zs hzs=>?_);have:=fill_seq (sz:=te.size) (ps.map fun p=>a.eval p.2) 0 [] zs.toList (fun v hv=>(hvs v hv).1) (by simp) (by rw[hln];simpa using hzs);rw[hparts];simpa using this
   have hfl:(flat (ps.map fun p=>a.eval p.2)).length=len*te.size:=by rw[qjd (fun u hu=>(hvs u hu).1),hln]
   split at hK
   · rename_i d;obtain⟨hdn,hK⟩:=hK;split at hK
     · obtain⟨hl0,hK⟩:=hK
       have hmax:len<=maxLen:=by
        have:len<=len*te.size:=Nat.le_mul_of_pos_right _ h0;unfold maxLen;omega
       have hna:=naR hR1 (d:=d) (sz:=te.size) (cap:=len) (t:=e) (xs:=es) (by rw[hsm.1];exact hdn) hty (New.alloc w (.cells (flat (ps.map fun p=>a.eval p.2)).toArray e (0,0)))
        (by have:=qwh.flat (rest:=[]) (cap:=len) hes hvs h0 (by simpa using hfl) hmax;simpa using this)
       rw[hlen]at hna;exact⟨_,_,_,_,hrun,hK,hna⟩
     · obtain⟨hl4,hw4⟩:=hR1.rw.newFix (New.alloc w (.cells (flat (ps.map fun p=>a.eval p.2)).toArray e (0,0))) (fun v hv=>qv9 (fun u hu=>(hvs u hu).2) v (by simpa using hv));have hR4:=hR1.turn hl4 hw4;refine⟨_,_,_,_,hrun,hK,hR4.pt (d:=some d) (show d<s1.n by rw[hsm.1];exact hdn) ?_⟩;refine .d ?_;by_cases hn:es=[]
       ·subst hn;simp only[lH]at hlen;subst hlen;exact .sl0 _ _ _ _ (fun _=>rfl) (fun e=>by cases e)
       ·rw[<-hlen];refine .sl (us:=ps.map fun p=>a.eval p.2) _ 0 _ hn (hes.mono hl4.Φ) (fun i u hu=>(hvs u (List.mem_of_getElem? hu)).1) (fun i u hu j x hj=>?_) (Nat.le_refl _) (fun _=>rfl);have:=zz4 (fun u hu=>(hvs u hu).1) hu hj;have hlt:=(List.getElem?_eq_some_iff.1 this).1;simp only[phi1,List.size_toArray,Nat.zero_add,true_and,hlt,if_true,List.getElem?_toArray];exact this
   ·exact hK.elim
 ·exact h.elim
end
open Go.MapKept
theorem qjh:∀(vs:List Value) (b n:Nat) (e:MapEntry),(ents b vs)[n]?=some e↔vs[2*n]?=some e.key/\vs[2*n+1]?=some e.val/\e.born=b+n
 |[],b,n,e=>by simp[ents]
 |[x],b,n,e=>by cases n<;>simp[ents]
 |x::y::vs,b,n,e=>by
  cases n with
  |zero=>obtain⟨k,v,c⟩:=e;simp[ents,eq_comm]
  |succ n=>
   simp only[ents,List.getElem?_cons_succ];rw[qjh vs (b+1) n e]
   simp only[show 2*(n+1)=2*n+1+1 by omega,List.getElem?_cons_succ,show 2*n+1+1+1=(2*n+1)+1+1 by omega]
   constructor<;>rintro⟨h1,h2,h3⟩<;>exact⟨h1,h2,by omega⟩
theorem ents_snoc:∀(vs:List Value) (b:Nat) (k v:Value),vs.length%2=0->ents b (vs++[k,v])=ents b vs++[{key:=k,val:=v,born:=b+vs.length /2}]
 |[],b,k,v,_=>by simp[ents]
 |[x],b,k,v,h=>by simp at h
 |x::y::vs,b,k,v,h=>by
  simp only[lB]at h;have:=ents_snoc vs (b+1) k v (by omega);simp only[List.cons_append,ents,this,lB]
  rw[show b+1+vs.length /2=b+(vs.length+1+1) /2 by omega]
theorem ents_set (vs:List Value)(b i:Nat)(v k:Value)(hk:vs[2*i]?=some k)(hi:2*i+1<vs.length):ents b (vs.set (2*i+1) v)=(ents b vs).modify i fun e=>{e with key:=k,val:=v}:=by
 apply List.ext_getElem?;intro n;rw[List.getElem?_modify];simp only[Option.map_eq_map]
 have hl:i<(ents b vs).length:=by rw[qxs];omega
 by_cases e:i=n
 · subst e;simp only[if_true];obtain⟨en,hen⟩:∃en,(ents b vs)[i]?=some en:=⟨_,lD hl⟩;rw[hen,Option.map_some];obtain⟨h1,h2,h3⟩:=(qjh vs b i en).1 hen;refine(qjh _ b i _).2 ⟨?_,?_,h3⟩
   ·rw[List.getElem?_set_ne (by omega)];exact hk
   ·rw[List.getElem?_set_self (by omega)]
 · simp only[if_neg e]
   cases hn:(ents b vs)[n]? with
   |none=>
    simp only[Option.map_none];rw[List.getElem?_eq_none_iff,qxs]at hn⊢;simpa using hn
   |some en=>
    obtain⟨h1,h2,h3⟩:=(qjh vs b n en).1 hn;simp only[Option.map_some];refine(qjh _ b n _).2 ⟨?_,?_,h3⟩
    ·rw[List.getElem?_set_ne (by omega)];exact h1
    ·rw[List.getElem?_set_ne (by omega)];exact h2
theorem zvx {i:TI}{d:TypeDesc}(hd:dk d=i.desc){Φ:Nat->Nat->Option Value}{k:D}{v:Value}(hk:kof i k=true)(h:Rp Φ k v):IsKey d v:=by
 unfold kof at hk;split at hk
 · split at hk
   ·rename_i k' e;obtain rfl:=dk_int (hd.trans e);cases h;simpa[IsKey]using hk
   ·cases hk
 · split at hk
   ·rename_i e;obtain rfl:=zkr (hd.trans e);cases h;trivial
   ·cases hk
 ·cases hk
theorem keq_iff {Φ:Nat->Nat->Option Value}{i:TI}{k k':D}{v v':Value}(h1:kof i k=true)(h2:kof i k'=true)(h:Rp Φ k v)(h':Rp Φ k' v'):(keq k k'=true↔v'=v):=by
 unfold kof at h1 h2;cases k<;>simp only[Bool.false_eq_true]at h1<;>cases k'<;>simp only[Bool.false_eq_true]at h2<;>cases h<;>cases h'<;>simp only[keq]
 · simp only[Bool.and_eq_true,decide_eq_true_eq,beq_iff_eq,Value.int.injEq]
   exact⟨fun⟨a,b⟩=>⟨a.symm,b.symm⟩,fun⟨a,b⟩=>⟨a.symm,b.symm⟩⟩
 ·simp
 ·simp
 · simp only[beq_iff_eq,Value.string.injEq,ByteArray.mk.injEq];constructor
   ·rintro rfl;rfl
   ·intro e;exact(by simpa using e.symm)
theorem zki {i:TI}:∀{cs:List LV},zzv i cs=true->cs.length%2=0
 |[],_=>rfl
 |[x],hm=>by cases x<;>simp[zzv]at hm
 |x::y::cs,hm=>by
  cases x<;>simp only[zzv,Bool.false_eq_true]at hm;simp only[Bool.and_eq_true]at hm;have:=zki hm.2;simp only[lB];omega
theorem zx2 {i:TI}{d:TypeDesc}(hd:dk d=i.desc){g:Gh}{k:D}{kv:Value}(hk:kof i k=true)(hkv:Rp g.Φ k kv):∀{cs:List LV} {vs:List Value} (b n:Nat),zzv i cs=true->LRps g cs vs->
  Instr.findNow d kv (ents b vs) n=some ((qw9 k cs).map fun p=>(n+p,vs.getD (2*p+1) undef))/\(∀p,qw9 k cs=some p->vs[2*p]?=some kv/\2*p+1<vs.length)
 |[],vs,b,n,_,h=>by cases h;simp[ents,Instr.findNow,qw9]
 |[x],vs,b,n,hm,h=>by cases x<;>simp[zzv]at hm
 |x::y::cs,vs,b,n,hm,h=>by
  cases x<;>simp only[zzv,Bool.false_eq_true]at hm;rename_i k';simp only[Bool.and_eq_true]at hm
  cases h with
  |cons h1 t=>
   cases t with
   | @cons _ v' _ vs h2 t=>
     rename_i kv';have hi:=keq_iff hk hm.1 hkv h1.unD;obtain⟨r,hr,hiff⟩:=sameNow_of_keys (zvx hd hk hkv) (zvx hd hm.1 h1.unD);simp only[ents,Instr.findNow,hr,qw9];by_cases e:keq k k'=true
     · have e2:=hi.1 e;have:r=true:=hiff.2 e2.symm;subst this;simp only[if_pos e,Option.map_some,Nat.add_zero]
       refine⟨by simp,fun p hp=>?_⟩
       cases hp
       exact⟨by simp[e2],by simp⟩
     · have:r=false:=by
        cases r with
        |false=>rfl
        |true=>exact absurd (hi.2 (hiff.1 rfl).symm) e
       subst this;obtain⟨ih1,ih2⟩:=zx2 hd hk hkv (b+1) (n+1) hm.2 t;simp only[if_neg e];rw[ih1]
       refine⟨?_,fun p hp=>?_⟩
       · cases qw9 k cs with
         |none=>rfl
         |some p=>
          simp only[Option.map_some,Option.some.injEq,Prod.mk.injEq]
          refine⟨by omega,?_⟩
          rw[show 2*(p+1)+1=(2*p+1)+1+1 by omega]
          simp
       · simp only[Option.map_eq_some_iff]at hp;obtain⟨q,hq,rfl⟩:=hp;obtain⟨a,b⟩:=ih2 q hq
         refine⟨?_,by simp only[lB];omega⟩
         rw[show 2*(q+1)=2*q+1+1 by omega]
         simpa using a
theorem qj1 (vs:List Value):qv4 qjr vs=.map (ents 0 vs).toArray (vs.length /2):=by
 unfold qv4;rw[if_neg (Nat.lt_irrefl _),if_pos rfl]
theorem qwm (n:Nat)(m:Option Nat)(seen:List Value):qv4 (qjr+1+n) (.map m::seen)=.mapIter m n (seen.map natOf).toArray n:=by
 unfold qv4;rw[if_neg (show¬qjr+1+n<qjr by simp only[qjr];omega),if_neg (show¬qjr+1+n=qjr by simp only[qjr];omega)]
 simp only[show qjr+1+n-(qjr+1)=n by omega]
section
variable {P:Program}{E:Env}{z:Bg}{g:Gh}{ds:List Deferred}{s:S}{a:Act}{w:World}
theorem Set1.setObj {w:World}{B:Nat}{o o':Obj}(h:w.heap[B]?=some o):Set1 w {w with heap:=w.heap.setIfInBounds B o'} B o':=
 ⟨rfl,rfl,rfl,by simp,(heap_set h).1,fun b hb=>(heap_set h).2 b hb⟩
theorem zvg {d:TypeDesc}{k:Value}(hk:IsKey d k):Instr.sameBits 10000 k k=true:=by
 cases d<;>cases k<;>simp_all [IsKey,Instr.sameBits,bytes_beq]
theorem insK_run (ht:TOK P E.tl)(hR:R z g ds s a w){t:TypeId}{m k x:LV}{mv kv xv:Value}(hmv:LRp g m mv)(hkv:LRp g k kv)(hxv:LRp g x xv){K:S->Prop}(h:insK E s t m k x K):
  ∃s' w',K s'/\R z g ds s' a w'/\(Instr.mapUpdate t mv kv xv).run P w=.ok () w':=by
 obtain⟨ti,hti,h⟩:=h;split at h
 · rename_i kt vt hdesc;obtain⟨ki,hki,h⟩:=h;split at h
   · rename_i j k;obtain⟨b,hb,hty,hkof,hkeys,hone,hK⟩:=h;obtain⟨d,hd,hu⟩:=ht.und hti;obtain⟨dkey,hdk,huk⟩:=ht.und hki;cases hmv;obtain⟨vs,hvs,hh,hones⟩:=hR.wd.box j b hb;rw[hty,qj1]at hh
     have hd':d=.map kt vt:=by
      cases d<;>simp only[dk]at hd<;>rw[hdesc]at hd<;>first|(cases hd;done)|skip
      cases hd;rfl
     subst hd'
     have hpk:P.underlying kt=some dkey:=by
      obtain⟨info,d2,_,_,_,_,h5,h6,_⟩:=ht kt ki (qq1 hki);have h7:=huk w;have h8:=zvi h5 w;rw[h7]at h8;simp only[Result.ok.injEq,and_true]at h8;rw[h8];exact h5
     have hkd:=hkv.unD;have hik:=zvx hdk hkof hkd;obtain⟨hf,hf2⟩:=zx2 hdk hkof hkd 0 0 hkeys hvs;have hev:=zki hkeys;rw[hvs.length]at hev;have hrunf:=run_findKey (P:=P) (w:=w) hpk hf;have hck:=run_checkKey (P:=P) (w:=w) hpk hik false 9999
     cases hm:qw9 k b.cells with
     |none=>
      rw[hm]at hrunf;simp only[Option.map_none]at hrunf;have hset:=Set1.setObj (o':=.map ((ents 0 vs).toArray.push {key:=kv,val:=xv,born:=vs.length /2}) (vs.length /2+1)) hh
      have hob:(.map ((ents 0 vs).toArray.push {key:=kv,val:=xv,born:=vs.length /2}) (vs.length /2+1):Obj)=qv4 qjr (vs++[kv,xv]):=by
       rw[qj1,ents_snoc vs 0 kv xv hev];simp only[List.push_toArray,Nat.zero_add,lC,lB,lH]
       congr 1
       omega
      rw[hob,show qjr=b.ty from hty.symm]at hset
      have hms:mset b.cells k x=b.cells++[.d k,x]:=by unfold mset;rw[hm]
      refine⟨_,{w with heap:=w.heap.setIfInBounds (g.β j) (qv4 b.ty (vs++[kv,xv]))},hK,⟨hR.size,hR.defers,hR.tm,?_⟩,?_⟩
      · rw[hms];refine hR.rw.setBox hb hset (hvs.append (.cons hkv (.cons hxv .nil))) ?_;intro v hv;simp only[List.mem_append,List.mem_cons,List.not_mem_nil,or_false]at hv
        rcases hv with hv|rfl|rfl
        ·exact hones v hv
        ·cases dkey<;>cases v<;>simp_all [IsKey,Value.oneCell']
        ·exact zxz hxv hone
      · rw[show b.ty=qjr from hty,<-hob]
        simp only[Instr.mapUpdate,Sem.run_bind,hu w,Result.andThen_ok,run_getObj_map hh,hck,hrunf];exact run_setObj_map _ hh
     |some p=>
      rw[hm]at hrunf;simp only[Option.map_some,Nat.zero_add]at hrunf;obtain⟨hpk1,hpk2⟩:=hf2 p hm;have hset:=Set1.setObj (o':=.map ((ents 0 vs).toArray.modify p fun e=>{e with key:=kv,val:=xv}) (vs.length /2)) hh
      have hob:(.map ((ents 0 vs).toArray.modify p fun e=>{e with key:=kv,val:=xv}) (vs.length /2):Obj)=qv4 qjr (vs.set (2*p+1) xv):=by
       rw[qj1,ents_set vs 0 p xv kv hpk1 hpk2];simp
      rw[hob,show qjr=b.ty from hty.symm]at hset
      have hms:mset b.cells k x=b.cells.set (2*p+1) x:=by unfold mset;rw[hm]
      obtain⟨en,hen⟩:∃en,(ents 0 vs)[p]?=some en:=⟨_,lD (by rw[qxs];omega)⟩;obtain⟨q1,q2,q3⟩:=(qjh vs 0 p en).1 hen
      have hek:en.key=kv:=by rw[hpk1]at q1;exact(Option.some.inj q1).symm
      have hkeep:((((ents 0 vs).toArray[p]?).map (·.key)).getD kv)=kv:=by simp[hen,hek]
      refine⟨_,{w with heap:=w.heap.setIfInBounds (g.β j) (qv4 b.ty (vs.set (2*p+1) xv))},hK,⟨hR.size,hR.defers,hR.tm,?_⟩,?_⟩
      · rw[hms];refine hR.rw.setBox hb hset (hvs.set _ hxv) ?_;intro v hv
        rcases List.mem_or_eq_of_mem_set hv with hv|rfl
        ·exact hones v hv
        ·exact zxz hxv hone
      · rw[show b.ty=qjr from hty,<-hob]
        simp only[Instr.mapUpdate,Sem.run_bind,hu w,Result.andThen_ok,run_getObj_map hh,hck,hrunf,hkeep,Instr.keyThatStays,zvg hik,if_true,Sem.run_pure];exact run_setObj_map _ hh
   ·exact h.elim
 ·exact h.elim
theorem lukK_run (ht:TOK P E.tl)(hR:R z g ds s a w){t:TypeId}{m k:LV}{mv kv:Value}(hmv:LRp g m mv)(hkv:LRp g k kv){ok:Bool}{K:LV->Prop}(h:lukK E s t m k ok K):
  ∃q y,K y/\LRp g y q/\(Instr.lookup t mv kv ok).run P w=.ok q w:=by
 obtain⟨ti,hti,h⟩:=h;split at h
 · rename_i kt vt hdesc;obtain⟨ki,hki,vi,hvi,h⟩:=h;split at h
   · rename_i j k;obtain⟨b,hb,hty,hkof,hkeys,hK⟩:=h;obtain⟨d,hd,hu⟩:=ht.und hti;obtain⟨dkey,hdk,huk⟩:=ht.und hki;have hz:=ht.zero hvi w;cases hmv;obtain⟨vs,hvs,hh,hones⟩:=hR.wd.box j b hb;rw[hty,qj1]at hh
     have hd':d=.map kt vt:=by
      cases d<;>simp only[dk]at hd<;>rw[hdesc]at hd<;>first|(cases hd;done)|skip
      cases hd;rfl
     subst hd'
     have hpk:P.underlying kt=some dkey:=by
      obtain⟨info,d2,_,_,_,_,h5,h6,_⟩:=ht kt ki (qq1 hki);have h7:=huk w;have h8:=zvi h5 w;rw[h7]at h8;simp only[Result.ok.injEq,and_true]at h8;rw[h8];exact h5
     have hkd:=hkv.unD;have hik:=zvx hdk hkof hkd;obtain⟨hf,hf2⟩:=zx2 hdk hkof hkd 0 0 hkeys hvs;have hrunf:=run_findKey (P:=P) (w:=w) hpk hf;have hck:=run_checkKey (P:=P) (w:=w) hpk hik (ents 0 vs).toArray.isEmpty 9999
     cases hm:qw9 k b.cells with
     |none=>
      rw[hm]at hrunf hK;simp only[Option.map_none]at hrunf
      refine⟨if ok then .tuple #[vi.zero,.bool false]else vi.zero,_,hK,?_,?_⟩
      · cases ok
        ·exact cv_rp g _
        ·exact .tup (.cons (cv_rp g _) (.cons (.d (.bool _)) .nil))
      ·simp only[Instr.lookup,Sem.run_bind,hu w,Result.andThen_ok,run_getObj_map hh,Sem.run_pure,hck,hrunf,hz]
     |some p=>
      rw[hm]at hrunf hK;obtain⟨x,hx,hK⟩:=hK;obtain⟨hpk1,hpk2⟩:=hf2 p hm;simp only[Option.map_some,Nat.zero_add]at hrunf;obtain⟨v,hv,hrv⟩:=hvs.get hx
      have hgd:vs.getD (2*p+1) undef=v:=by rw[List.getD_eq_getElem?_getD,hv];rfl
      rw[hgd]at hrunf
      refine⟨if ok then .tuple #[v,.bool true]else v,_,hK,?_,?_⟩
      · cases ok
        ·exact hrv
        ·exact .tup (.cons hrv (.cons (.d (.bool _)) .nil))
      ·simp only[Instr.lookup,Sem.run_bind,hu w,Result.andThen_ok,run_getObj_map hh,Sem.run_pure,hck,hrunf]
   ·exact h.elim
 ·exact h.elim
theorem nbR (hR:R z g ds s a w){d:Nat}(hd:d<s.n)(h1000:d<1000){ty:TypeId}{cs:List LV}{vs:List Value}{w':World}(n:New w w' (qv4 ty vs))(hc:LRps g cs vs)(hones:∀v∈vs,v.oneCell'=true)
  {x:LV}{q:Value}(hx:LRp {g with β:=upd d w.heap.size g.β} x q):
  R z {g with β:=upd d w.heap.size g.β} ds {n:=s.n,tm:=put d x (mapf (fgt d) s.tm),bx:=put d ⟨fgts d cs,ty⟩ (mapf (Box.fgt d) s.bx),ar:=s.ar} (a.put (some d) q) w':=by
 obtain⟨hb,hw⟩:=hR.rw.newBox h1000 (ty:=ty) n hc hones
 have hda:d<a.tmps.size:=by rw[hR.size];exact hd
 refine⟨by simp[Act.put,hR.size],hR.defers,fun k y hk=>?_,hw⟩
 rcases zj9 hk with⟨rfl,rfl⟩|⟨e,hk'⟩
 · refine⟨hd,?_⟩
   have:(a.put (some k) q).tmps.getD k undef=q:=by simp[Act.put,Array.getD,hda]
   rw[this];exact hx
 · simp only[mapf,Option.map_eq_some_iff]at hk';obtain⟨y₀,hy₀,rfl⟩:=hk';obtain⟨h3,h4⟩:=hR.tm k y₀ hy₀;refine⟨h3,?_⟩
   have:(a.put (some d) q).tmps.getD k undef=a.tmps.getD k undef:=by
    simp only[Act.put];rw[Array.getD_eq_getD_getElem?,Array.getD_eq_getD_getElem?,Array.getElem?_setIfInBounds,if_neg (fun e'=>e e'.symm)]
   rw[this];exact h4.fgt hb
theorem mkmK_run {E:Env}[Stb E z] (hR:R z g ds s a w){d:Option Tmp}{K:S->Prop}(h:mkmK E s d K)(t:TypeId):
  ∃q g' s' w',K s'/\R z g' ds s' (a.put d q) w'/\(Instr.makeMap t none).run P w=.ok q w':=by
 unfold mkmK at h;split at h
 · rename_i d;obtain⟨hd,h1,hK⟩:=h;split at hK
   · obtain⟨he,hK⟩:=hK
     have hno:s.bx (w.heap.size+1000000)=none:=by
      cases hb:s.bx (w.heap.size+1000000)with
      |none=>rfl
      |some b=>
       have:=hR.wd.lt_box hb;rw[Stb.get he hR.rw]at this;omega
     have hw:=Rw.newS he hR.rw (w':=w.alloc (.map #[] 0)) (ty:=1000000) (cs:=[]) (vs:=[]) (New.alloc w (.map #[] 0)) .nil (fun v hv=>by cases hv);have hp:=hR.pt (d:=some d) (x:=.d (.imm (.map (some w.heap.size)))) (v:=.map (some w.heap.size)) hd (.d (.imm _));exact⟨.map (some w.heap.size),g,_,_,hK _ hno,⟨hp.size,hp.defers,hp.tm,hw⟩,rfl⟩
   have hx:LRp {g with β:=upd d w.heap.size g.β} (.mp d) (.map (some w.heap.size)):=by
    have:=LRp.mp (g:={g with β:=upd d w.heap.size g.β}) d;simpa[qzv]using this
   refine⟨.map (some w.heap.size),_,_,_,hK,nbR hR hd h1 (ty:=1000000) (cs:=[]) (vs:=[]) (New.alloc w (.map #[] 0)) .nil (fun v hv=>by cases hv) hx,?_⟩;rfl
 ·exact h.elim
theorem rngK_run (ht:TOK P E.tl)(hR:R z g ds s a w){d:Option Tmp}{t:TypeId}{x:LV}{xv:Value}(hxv:LRp g x xv){K:S->Prop}(h:rngK E s d t x K):
  ∃q g' s' w',K s'/\R z g' ds s' (a.put d q) w'/\(Instr.range t xv).run P w=.ok q w':=by
 obtain⟨ti,hti,h⟩:=h;split at h
 · rename_i kt vt hdesc;split at h
   · rename_i j d;obtain⟨b,hb,hty,hd,h1,hK⟩:=h;obtain⟨du,hdu,hu⟩:=ht.und hti
     have hd':du=.map kt vt:=by
      cases du<;>simp only[dk]at hdu<;>rw[hdesc]at hdu<;>first|(cases hdu;done)|skip
      cases hdu;rfl
     subst hd';cases hxv;obtain⟨vs,hvs,hh,hones⟩:=hR.wd.box j b hb;rw[hty,qj1]at hh
     have hx:LRp {g with β:=upd d w.heap.size g.β} (.bp d 0) (.pointer (some ⟨w.heap.size,0,none⟩)):=by
      have:=LRp.bp (g:={g with β:=upd d w.heap.size g.β}) d 0;simpa[qzv]using this
     have hn:New w (w.alloc (.mapIter (some (g.β j)) (vs.length /2) #[] (vs.length /2))) (qv4 (1000001+b.cells.length /2) [.map (some (g.β j))]):=by
      have:=qwm (vs.length /2) (some (g.β j)) []
      rw[show(1000001+b.cells.length /2:Nat)=qjr+1+vs.length /2 by rw[hvs.length],this]
      exact New.alloc w _
     refine⟨_,_,_,_,hK,nbR hR hd h1 hn (cs:=[.mp j]) (.cons (.mp j) .nil) (fun v hv=>by simp only[List.mem_singleton]at hv;subst hv;rfl) hx,?_⟩;simp only[Instr.range,Sem.run_bind,hu w,Result.andThen_ok,run_getObj_map hh,Sem.run_pure];rfl
   ·exact h.elim
 ·exact h.elim
theorem R.drew (h:R z g ds s a w):R z g ds s a w.drew:=
 ⟨h.size,h.defers,h.tm,⟨⟨h.rw.wd.box,h.rw.wd.arr,h.rw.wd.len,h.rw.wd.fx,h.rw.wd.inj,h.rw.wd.inja,h.rw.wd.injb,h.rw.wd.outb,h.rw.wd.outa⟩,⟨h.rw.fr.os,h.rw.fr.tape,h.rw.fr.output,h.rw.fr.size,h.rw.fr.block⟩,h.rw.mine,h.rw.keys⟩⟩
theorem run_mapNext (w:World){n:Nat}(hn:0<n):∃(j:Nat) (w1:World),j<n/\(w1=w\/w1=w.drew)/\(choose (Question.mapNext n)).run P w=.ok j w1:=by
 by_cases hf:n<=1
 ·exact⟨0,w,hn,.inl rfl,by simp[choose,Sem.run,Question.forced,hf]⟩
 · exact⟨_,w.drew,Nat.mod_lt _ hn,.inr rfl,by
    simp only[choose,Sem.run,Question.forced,decide_eq_true_eq,hf,if_false,Question.cut]
    rfl⟩
theorem zxs {g:Gh}:∀{cs:List LV} {vs:List Value} {seen:List Nat},zzm cs=some seen->LRps g cs vs->vs.map natOf=seen
 |[],vs,seen,h,hr=>by cases hr;simpa[zzm]using h
 |x::cs,vs,seen,h,hr=>by
  cases hr with
  |cons h1 t=>
   match x,h1,h with
   |.d (.int k n),h1,h=>
     simp only[zzm,Option.map_eq_some_iff]at h;obtain⟨l,hl,rfl⟩:=h;cases h1.unD;simp[natOf,zxs hl t]
theorem zz9 {vs:List Value}{e:MapEntry}(h:e∈ents 0 vs):∃i,i<vs.length /2/\vs[2*i]?=some e.key/\vs[2*i+1]?=some e.val/\e.born=i:=by
 obtain⟨i,hi⟩:=List.getElem?_of_mem h;obtain⟨h1,h2,h3⟩:=(qjh vs 0 i e).1 hi;have:=(List.getElem?_eq_some_iff.1 hi).1;rw[qxs]at this
 exact⟨i,this,h1,h2,by omega⟩
theorem nxtK_run (hR:R z g ds s a w){d:Option Tmp}{x:LV}{xv:Value}(hxv:LRp g x xv){K:S->Prop}(h:nxtK s d x K)(ty:TypeId):
  ∃q y s' w',K (s'.pt d y)/\dOk s' d/\LRp g y q/\R z g ds s' a w'/\(Instr.next xv false ty).run P w=.ok q w':=by
 unfold nxtK at h;split at h
 · rename_i r;obtain⟨b,hb,h⟩:=h;split at h
   · rename_i j cs hbc;obtain⟨seen,hseen,m,hm,hmty,hbty,hev,hd,hK1,hK0⟩:=h;cases hxv;obtain⟨vr,hvr,hhr,honer⟩:=hR.wd.box r b hb;obtain⟨vm,hvm,hhm,honem⟩:=hR.wd.box j m hm;rw[hmty,qj1]at hhm;rw[hbc]at hvr
     cases hvr with
     | @cons _ v0 _ vr hv0 hvr=>
     cases hv0;have hsn:=zxs hseen hvr
     have hbty':b.ty=qjr+1+vm.length /2:=by rw[hbty,hvm.length]
     rw[hbty',qwm,hsn]at hhr;unfold nxt1 at hK1;unfold nxt0 at hK0;rw[hvm.length]at hK0;simp only[hvm.length]at hK1
     have hgr:(getObj (g.β r)).run P w=.ok (.mapIter (some (g.β j)) (vm.length /2) seen.toArray (vm.length /2)) w:=by simp[getObj,Sem.run,hhr]
     have hgm:=run_getObj_map (P:=P) hhm
     have htest:(!seen.toArray.isEmpty&& !(ents 0 vm).toArray.isEmpty&&(ents 0 vm).toArray.all (fun e=>decide (e.born≥vm.length /2)))=false:=by
      cases he:(ents 0 vm).toArray.isEmpty with
      |true=>simp
      |false=>
       have:(ents 0 vm).toArray.all (fun e=>decide (e.born≥vm.length /2))=false:=by
        rw[Bool.eq_false_iff];intro hall;rw[Array.all_eq_true_iff_forall_mem]at hall
        cases hl:ents 0 vm with
        |nil=>rw[hl]at he;simp at he
        |cons e l=>
         have hme:e∈ents 0 vm:=by rw[hl];simp
         obtain⟨i,hi,_,_,hbn⟩:=zz9 hme;have:=hall e (by simpa using hme);simp at this;omega
       rw[this,Bool.and_false]
     have hold:((ents 0 vm).toArray.filter (fun e=> !seen.toArray.contains e.born)).filter (fun e=>decide (e.born<vm.length /2))=(ents 0 vm).toArray.filter (fun e=> !seen.toArray.contains e.born):=by
      rw[Array.filter_eq_self];intro e he;simp only[Array.mem_filter]at he;obtain⟨i,hi,_,_,hbn⟩:=zz9 (by simpa using he.1);simp;omega
     have hnew:((ents 0 vm).toArray.filter (fun e=> !seen.toArray.contains e.born)).filter (fun e=>decide (e.born≥vm.length /2))=#[]:=by
      rw[Array.filter_eq_empty_iff];intro e he;simp only[Array.mem_filter]at he;obtain⟨i,hi,_,_,hbn⟩:=zz9 (by simpa using he.1);simp;omega
     have hL:∀e,e∈(ents 0 vm).toArray.filter (fun e=> !seen.toArray.contains e.born)->e∈ents 0 vm/\e.born∉seen:=by
      intro e he;simp only[Array.mem_filter]at he
      exact⟨by simpa using he.1,by simpa using he.2⟩
     have hL0:(ents 0 vm).toArray.filter (fun e=> !seen.toArray.contains e.born)=#[]->∀i,i<vm.length /2->i∈seen:=by
      intro he i hi;rw[Array.filter_eq_empty_iff]at he;obtain⟨en,hen⟩:∃en,(ents 0 vm)[i]?=some en:=⟨_,lD (by rw[qxs];exact hi)⟩;have:=he en (by simpa using List.mem_of_getElem? hen);obtain⟨_,_,h3⟩:=(qjh vm 0 i en).1 hen
      have h4:en.born∈seen:=by simpa using this
      rw[h3,Nat.zero_add]at h4;exact h4
     simp only[Instr.next,Sem.run_bind,hgr,hgm,Result.andThen_ok,htest,Bool.false_eq_true,if_false,hold,hnew,Array.append_empty]
     generalize(ents 0 vm).toArray.filter (fun e=> !seen.toArray.contains e.born)=L at hL hL0
     by_cases h0:L=#[]
     ·subst h0;refine⟨.tuple #[.bool false],_,s,w,hK0 (hL0 rfl),hd,.tup (.cons (.d (.bool false)) .nil),hR,?_⟩;simp[choose,Sem.run,Question.forced]
     · have hne:L.isEmpty=false:=by simpa[Array.isEmpty_iff]using h0
       have hsz:0<L.size:=by
        rcases Nat.eq_zero_or_pos L.size with h|h
        ·exact absurd (Array.eq_empty_of_size_eq_zero h) h0
        ·exact h
       simp only[hne,Bool.false_eq_true,if_false,Array.empty_append,Array.size_map];obtain⟨c,w1,hc,hw1,hrun⟩:=run_mapNext (P:=P) w hsz;simp only[hrun,Result.andThen_ok,Array.getElem?_map,Array.getElem?_eq_getElem hc,Option.map_some];obtain⟨hmem,hns⟩:=hL L[c] (Array.getElem_mem hc);obtain⟨i,hi,hk,hv,hbn⟩:=zz9 hmem;rw[hbn]at hns
       have hR1:R z g ds s a w1:=by rcases hw1 with rfl|rfl;exact hR;exact hR.drew
       have hhr1:w1.heap[g.β r]?=some (.mapIter (some (g.β j)) (vm.length /2) seen.toArray (vm.length /2)):=by rcases hw1 with rfl|rfl<;>exact hhr
       have hset:=Set1.setObj (o':=.mapIter (some (g.β j)) (vm.length /2) (seen.toArray.push i) (vm.length /2)) hhr1
       have hob:(.mapIter (some (g.β j)) (vm.length /2) (seen.toArray.push i) (vm.length /2):Obj)=qv4 b.ty (.map (some (g.β j))::(vr++[.int .i64 i])):=by
        rw[hbty',qwm,List.map_append,hsn];simp[natOf]
       rw[hob]at hset;obtain⟨lk,hlk,hrk⟩:=hvm.get' hk;obtain⟨lv,hlv,hrv⟩:=hvm.get' hv
       refine⟨.tuple #[.bool true,L[c].key,L[c].val],_,_,_,hK1 i lk lv hi hns hlk hlv,?_,.tup (.cons (.d (.bool true)) (.cons hrk (.cons hrv .nil))),
        ⟨hR1.size,hR1.defers,hR1.tm,hR1.rw.setBox hb hset (.cons (.mp j) (hvr.append (.cons (.d (.int .i64 i)) .nil))) ?_⟩,?_⟩
       ·cases d<;>exact hd
       · intro v hv;simp only[List.mem_cons,List.mem_append,List.not_mem_nil,or_false]at hv
         rcases hv with rfl|hv|rfl
         ·rfl
         ·exact honer v (by simp[hv])
         ·rfl
       · have hso:(setObj (g.β r) (.mapIter (some (g.β j)) (vm.length /2) (seen.toArray.push i) (vm.length /2))).run P w1=.ok () {w1 with heap:=w1.heap.setIfInBounds (g.β r) (.mapIter (some (g.β j)) (vm.length /2) (seen.toArray.push i) (vm.length /2))}:=by simp[setObj,Sem.run,hhr1]
         simp only[<-hob,hbn,Sem.run_bind,hso,Result.andThen_ok,Sem.run_pure]
   ·exact h.elim
 ·exact h.elim
theorem entK_run (hR:R z g ds s a w){d:Option Tmp}{x:LV}{xv:Value}(hxv:LRp g x xv){K:S->Prop}(h:entK s d x K):
  ∃q y,K (s.pt d y)/\dOk s d/\LRp g y q/\(Instr.entry xv).run P w=.ok q w:=by
 unfold entK at h;split at h
 · rename_i r;obtain⟨b,hb,h⟩:=h;split at h
   · rename_i j cs hbc;obtain⟨seen,hseen,i,hi,m,hm,hmty,hbty,hd,k,hk,v,hv,hK⟩:=h;cases hxv;obtain⟨vr,hvr,hhr,honer⟩:=hR.wd.box r b hb;obtain⟨vm,hvm,hhm,honem⟩:=hR.wd.box j m hm;rw[hmty,qj1]at hhm;rw[hbc]at hvr
     cases hvr with
     | @cons _ v0 _ vr hv0 hvr=>
     cases hv0;have hsn:=zxs hseen hvr
     have hbty':b.ty=qjr+1+vm.length /2:=by rw[hbty,hvm.length]
     rw[hbty',qwm,hsn]at hhr
     have hgr:(getObj (g.β r)).run P w=.ok (.mapIter (some (g.β j)) (vm.length /2) seen.toArray (vm.length /2)) w:=by simp[getObj,Sem.run,hhr]
     have hgm:=run_getObj_map (P:=P) hhm;obtain⟨kv,hkv,hrk⟩:=hvm.get hk;obtain⟨vv,hvv,hrv⟩:=hvm.get hv
     have hen:(ents 0 vm)[i]?=some {key:=kv,val:=vv,born:=i}:=(qjh vm 0 i _).2 ⟨hkv,hvv,by simp⟩
     have hback:seen.toArray.back?=some i:=by rw[Array.back?_eq_getElem?];rw[List.getLast?_eq_getElem?]at hi;simpa using hi
     have hfind:(ents 0 vm).toArray.find? (fun e=>e.born==i)=some {key:=kv,val:=vv,born:=i}:=by
      rw[List.find?_toArray]
      cases hf:(ents 0 vm).find? (fun e=>e.born==i)with
      |none=>
       have:=List.find?_eq_none.1 hf _ (List.mem_of_getElem? hen);simp at this
      |some e=>
       have h1:=List.find?_some hf;have h2:=List.mem_of_find?_eq_some hf;obtain⟨n,hn⟩:=List.getElem?_of_mem h2;obtain⟨_,_,h3⟩:=(qjh vm 0 n e).1 hn;simp only[beq_iff_eq]at h1
       have:n=i:=by omega
       subst this;rw[hn]at hen;exact hen
     refine⟨.tuple #[kv,vv],_,hK,hd,.tup (.cons hrk (.cons hrv .nil)),?_⟩;simp only[Instr.entry,Sem.run_bind,hgr,Result.andThen_ok,hback,hgm,bne_self_eq_false,Bool.false_eq_true,if_false,hfind,Sem.run_pure]
   ·exact h.elim
 ·exact h.elim
end
end Lx
