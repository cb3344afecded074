import Derived.Test.YtkknljojdgpdaaaGreatDoorA04
import Derived.Laws.MakeOwn
set_option maxHeartbeats 32000000
set_option linter.unusedSimpArgs false
set_option linter.unusedVariables false
namespace Lx
open Go
theorem qx0 {P:Program}(w:World)(t ty e:TypeId)(i:TypeInfo)(ht:P.underlying t=some (.slice e))(hi:P.info? e=some i)(b:Option Addr)(n cap:Nat)(h:n<=cap)(b':Option Addr)(cap':Nat):
  (Builtin.append_ #[t,t] ty #[.slice b n cap,.slice b' 0 cap']).run P w=.ok (.slice b n cap) w:=by
 have hf:(Builtin.firstCells i.size 0 (.slice b' 0 cap')).run P w=.ok #[] w:=by
  cases b'<;>simp[Builtin.firstCells,loadCells,loadCellsFrom]
 cases b with
 |none=>simp[Builtin.append_,run_underlying ht,Go.sizeOf,typeInfo,hi,Builtin.lenOf,h,hf]
 |some b=>simp[Builtin.append_,run_underlying ht,Go.sizeOf,typeInfo,hi,Builtin.lenOf,h,hf,storeCells]
theorem getElem?_lt_of {α:Type}{l:List α}{i:Nat}{x:α}(h:l[i]?=some x):i<l.length:=(List.getElem?_eq_some_iff.1 h).1
theorem zk7 {g:Gh}{bx:Bx}{ar:Ar}{w:World}(hw:Wd g bx ar w){sz:Nat}{us:List Value}{b off:Nat}(hsz:∀(i:Nat) (u:Value),us[i]?=some u->u.cells.size=sz)
  (hc:∀(i:Nat) (u:Value),us[i]?=some u->∀(j:Nat) (c:Value),u.cells[j]?=some c->g.Φ b (off+i*sz+j)=some c)(h0:0<sz):
  (flat us).length=us.length*sz/\(∀j v,(flat us)[j]?=some v->w.cell? ((⟨b,off,none⟩:Addr).add j)=some v)/\(∀u∈us,u.cells.size=sz/\∀v∈u.cells,v.oneCell'=true):=by
 have hmem:∀u∈us,u.cells.size=sz:=fun u hu=>by
  obtain⟨i,hi⟩:=List.getElem?_of_mem hu;exact hsz i u hi
 have hfl:=qjd hmem
 refine⟨hfl,fun j v hv=>?_,fun u hu=>⟨hmem u hu,fun v hv=>?_⟩⟩
 · have hj:=getElem?_lt_of hv;rw[hfl]at hj;have hi:j /sz<us.length:=Nat.div_lt_of_lt_mul (by rw[Nat.mul_comm];exact hj);have hu:=lD hi
   have hm:j%sz<us[j /sz].cells.size:=by rw[hmem _ (List.getElem_mem hi)];exact Nat.mod_lt _ h0
   have h1:=zz4 hmem hu (Array.getElem?_eq_getElem hm);rw[Nat.mul_comm,Nat.div_add_mod]at h1;rw[h1]at hv;simp only[Option.some.injEq]at hv;subst hv;have h2:=hc _ _ hu _ _ (Array.getElem?_eq_getElem hm);rw[Nat.add_assoc,Nat.mul_comm,Nat.div_add_mod]at h2;rw[Addr.add_none];exact(hw.fix _ _ _ h2).1
 ·obtain⟨i,hi⟩:=List.getElem?_of_mem hu;obtain⟨j,hj⟩:=Array.getElem?_of_mem hv;exact(hw.fix _ _ _ (hc i u hi j v hj)).2
theorem pre_cells {c:Array Value}{fs us:List Value}{n m:Nat}(hn:fs.length=n)(ht:c.toList.take n=fs):∀o,o<n->(fs++us++c.toList.drop m).toArray[o]?=c[o]?:=by
 intro o ho
 have h1:o<fs.length:=by omega
 rw[List.getElem?_toArray,List.append_assoc,List.getElem?_append_left h1,<-ht,List.getElem?_take,if_pos ho];simp
section
variable {P:Program}{E:Env}{sp:FuncId->Option SpecX}{z:Bg}{g:Gh}{ds:List Deferred}{s:S}{a:Act}{w:World}
theorem R.pt' {z:Bg}{g:Gh}{ds:List Deferred}{s:S}{a:Act}{w:World}(h:R z g ds s a w){d:Tmp}(hd:d<s.n){x:LV}{v:Value}(hx:LRp g x v):R z g ds {s with tm:=put d x s.tm} (a.put (some d) v) w:=
 h.pt (d:=some d) hd hx
theorem appK0_run (ht:TOK P E.tl)(hR:R z g ds s a w){d:Option Tmp}{t:TypeId}{x y:LV}{xv yv:Value}(hx:LRp g x xv)(hy:LRp g y yv){K:S->Prop}(h:appK0 E s d t x y K)(ty:TypeId):
  ∃v g' s' w',(Builtin.append_ #[t,t] ty #[xv,yv]).run P w=.ok v w'/\K s'/\R z g' ds s' (a.put d v) w':=by
 obtain⟨ti,hti,h⟩:=h;split at h
 · rename_i e d hd;obtain⟨te,hte,h0,hty,hdn,h⟩:=h;obtain⟨info,d0,i1,i2,i3,i4,i5,hd0,i6⟩:=ht t ti (qq1 hti);obtain⟨ie,d1,j1,j2,j3,j4,j5,_,j6,_⟩:=ht e te (qq1 hte);obtain rfl:=qky (hd0.trans hd);split at h
   · rename_i yd;obtain⟨⟨ys,fy⟩,hys,h⟩:=h;simp only at h
     have hsrc:(ys=[]/\∃b cap,yv=.slice b 0 cap)\/(ys≠[]/\∃us b cap,yv=.slice (some b) ys.length cap/\Rps g.Φ ys us/\(flat us).length=ys.length*te.size/\
       (∀j v,(flat us)[j]?=some v->w.cell? (b.add j)=some v)/\(∀u∈us,u.cells.size=te.size/\∀v∈u.cells,v.oneCell'=true)):=by
      rcases qw1 hy.unD hys with⟨rfl,a',cap,rfl,hf,ha⟩|⟨hn,us,b,off,cap,rfl,hus,hsz,hc,hcap,hf⟩
      ·exact .inl ⟨rfl,_,_,rfl⟩
      · obtain⟨h1,h2,h3⟩:=zk7 hR.wd hsz hc h0
        exact .inr ⟨hn,us,_,_,rfl,hus,by rw[h1,hus.length],h2,h3⟩
     split at h
     · rename_i xd;obtain⟨⟨xs,fx⟩,hxs,hfull,hl,hby,hnil,hcons⟩:=h;simp only at hfull hl hby hnil hcons;subst hfull
       rcases hsrc with⟨rfl,b,cap,rfl⟩|⟨hn,us,b,cap,rfl,hus,hfl,hcells,hones⟩
       · have hK:=hnil rfl
         obtain⟨bb,n,cc,rfl,hle⟩:∃bb n cc,xv=.slice bb n cc/\n<=cc:=by
          rcases qw1 hx.unD hxs with⟨rfl,a',cap',rfl,hf,ha⟩|⟨hn,us,b,off,cap',rfl,hus,hsz,hc,hcap,hf⟩
          ·exact⟨_,_,_,rfl,Nat.zero_le _⟩
          ·exact⟨_,_,_,rfl,hcap⟩
         exact⟨_,g,_,w,qx0 w t ty e ie i5 j1 bb n cc hle b cap,hK,hR.pt (d:=some d) hdn hx⟩
       · have hK:=hcons hn;have hm:0<ys.length:=List.length_pos_iff.2 hn
         have h63:xs.length+ys.length<=maxLen:=by unfold maxLen;exact hl
         have fin:∀(vs:List Value) (old:Nat),Rps g.Φ xs vs->(∀u∈vs,u.cells.size=te.size/\∀v∈u.cells,v.oneCell'=true)->
           R z {g with α:=upd d (w.heap.size,grownCap w (xs.length+ys.length) old e) g.α,len:=upd d (some (xs++ys).length) g.len} ds (s.na d te.size e (xs++ys))
             (a.put (some d) (.slice (some ⟨w.heap.size,0,none⟩) (xs.length+ys.length) (grownCap w (xs.length+ys.length) old e)))
             (w.drew.alloc (.cells ((flat vs).toArray++(flat us).toArray++Builtin.zeroCells te.zero.cells (grownCap w (xs.length+ys.length) old e-(xs.length+ys.length))) e)):=by
          intro vs old hvs hvo;have hge:=grownCap_ge w (xs.length+ys.length) old e;have hcm:=grownCap_le_maxLen w (xs.length+ys.length) old e h63
          have hall:∀u∈vs++us,u.cells.size=te.size/\∀v∈u.cells,v.oneCell'=true:=fun u hu=>by
           rcases List.mem_append.1 hu with hu|hu
           ·exact hvo u hu
           ·exact hones u hu
          have hlv:(flat vs).length=xs.length*te.size:=by rw[qjd (fun u hu=>(hvo u hu).1),hvs.length]
          have hzs:(Builtin.zeroCells te.zero.cells (grownCap w (xs.length+ys.length) old e-(xs.length+ys.length))).toList.length=(grownCap w (xs.length+ys.length) old e-(xs.length+ys.length))*te.size:=by
           rw[Array.length_toList,size_zeroCells,j6]
          have hac:=qwh.flat (rest:=(Builtin.zeroCells te.zero.cells (grownCap w (xs.length+ys.length) old e-(xs.length+ys.length))).toList) (cap:=grownCap w (xs.length+ys.length) old e)
           (hvs.append hus) hall h0 (by
             have:Lx.flat (vs++us)=flat vs++flat us:=by simp[flat]
             rw[this,lC,lC,hlv,hfl,hzs,<-Nat.add_mul,<-Nat.add_mul]
             congr 1;omega) hcm
          have:=naR (d:=d) hR hdn hty (New.drew w (.cells _ e (0,0))) hac;rw[lC]at this⊢
          have e1:Lx.flat (vs++us)++(Builtin.zeroCells te.zero.cells (grownCap w (xs.length+ys.length) old e-(xs.length+ys.length))).toList=
            flat vs++flat us++(Builtin.zeroCells te.zero.cells (grownCap w (xs.length+ys.length) old e-(xs.length+ys.length))).toList:=by simp[flat]
          rw[e1]at this
          have e2:(flat vs++flat us++(Builtin.zeroCells te.zero.cells (grownCap w (xs.length+ys.length) old e-(xs.length+ys.length))).toList).toArray=
            (flat vs).toArray++(flat us).toArray++Builtin.zeroCells te.zero.cells (grownCap w (xs.length+ys.length) old e-(xs.length+ys.length)):=by apply Array.ext';simp
          rw[e2]at this;exact this
         rcases qw1 hx.unD hxs with⟨rfl,a',cap',rfl,hf,ha⟩|⟨hnx,vs,b',off,cap',rfl,hvs,hsz,hc,hcap,hf⟩
         · have:=hf rfl;subst this
           cases a' with
           |none=>
            have hr:=run_append_nil (P:=P) w t ty e ie te.zero i5 j1 j4 b ys.length cap (flat us) (by rw[hfl,j2]) hcells hm (by simp only[lH,Nat.zero_add]at hl;omega) (by rw[j3];simp only[lH,Nat.zero_add]at hby;omega);have hfin:=fin [] 0 .nil (fun u hu=>by cases hu);simp only[lH,Nat.zero_add,flat,List.flatMap_nil,Array.empty_append]at hfin
            exact⟨_,_,_,_,hr,hK,by simpa[flat]using hfin⟩
           |some a'=>
            have hr:=run_append_grow (P:=P) w t ty e ie te.zero i5 j1 j4 a' 0 0 [] (by simp) (fun j v hv=>by simp at hv) b ys.length cap (flat us) (by rw[hfl,j2]) hcells (by omega) (by simp only[lH]at hl;omega)
             (growslice_fits (by omega) (by rw[j3];simpa using hby))
            have hfin:=fin [] 0 .nil (fun u hu=>by cases hu)
            exact⟨_,_,_,_,hr,hK,by simpa[flat]using hfin⟩
         · have:=hf rfl;subst this;obtain⟨h1,h2,h3⟩:=zk7 hR.wd hsz hc h0
           have hr:=run_append_grow (P:=P) w t ty e ie te.zero i5 j1 j4 ⟨b',off,none⟩ xs.length xs.length (flat vs) (by rw[h1,hvs.length,j2]) h2 b ys.length cap (flat us) (by rw[hfl,j2]) hcells (by omega) (by omega)
            (growslice_fits (by omega) (by rw[j3];exact hby))
           exact⟨_,_,_,_,hr,hK,fin vs xs.length hvs h3⟩
     · rename_i r sz n;obtain⟨⟨sz',ty',xs⟩,har,h1,h2,h3,h4,hl,hby,hK⟩:=h;simp only at h1 h2 h3 h4 hK;subst h1 h3 h4;subst h2;obtain⟨vs,c,q1,q2,q3,q4,q5,q6,q7⟩:=hR.wd.arr r te.size ty' xs har;have hlen:=hR.wd.len r;rw[har]at hlen
       cases hx with
       |os hone hxc=>
        have hxv:=(hxc _ hlen).2 rfl;subst hxv
        have hvmem:∀u∈vs,u.cells.size=te.size/\∀v∈u.cells,v.oneCell'=true:=fun u hu=>by
         obtain⟨i,hi⟩:=List.getElem?_of_mem hu;exact⟨(q7 i u hi).1,(q7 i u hi).2.1⟩
        have hlv:(flat vs).length=xs.length*te.size:=by rw[qjd (fun u hu=>(hvmem u hu).1),q1.length]
        rcases hsrc with⟨rfl,b,cap,rfl⟩|⟨hn,us,b,cap,rfl,hus,hfl,hcells,hones⟩
        · simp only[List.append_nil,lH,Nat.add_zero]at hK
          have hput:put r (te.size,ty',xs) s.ar=s.ar:=by
           funext k
           by_cases e:k=r
           ·subst e;rw[qz7,har]
           ·rw[qqr _ _ e]
          rw[hput]at hK;exact⟨_,g,_,w,qx0 w t ty (tyo ty') ie i5 j1 _ _ _ q4 b cap,hK,hR.pt' hdn (.os rfl hxc)⟩
        · have hm:0<ys.length:=List.length_pos_iff.2 hn
          have h63:xs.length+ys.length<=maxLen:=by unfold maxLen;exact hl
          have hall:∀u∈vs++us,u.cells.size=te.size/\∀v∈u.cells,v.oneCell'=true:=fun u hu=>by
           rcases List.mem_append.1 hu with hu|hu
           ·exact hvmem u hu
           ·exact hones u hu
          have happ:Lx.flat (vs++us)=flat vs++flat us:=by simp[flat]
          by_cases hroom:xs.length+ys.length<=(g.α r).2
          · have htake:c.toList.take (xs.length*te.size)=flat vs:=by
             apply List.ext_getElem?;intro k;rw[List.getElem?_take];split
             · rename_i hk
               have hi:k /te.size<vs.length:=by rw[<-q1.length];exact Nat.div_lt_of_lt_mul (by rw[Nat.mul_comm];exact hk)
               have hu:=lD hi
               have hmm:k%te.size<vs[k /te.size].cells.size:=by rw[(hvmem _ (List.getElem_mem hi)).1];exact Nat.mod_lt _ h0
               have g1:=zz4 (fun u hu=>(hvmem u hu).1) hu (Array.getElem?_eq_getElem hmm);have g2:=(q7 _ _ hu).2.2 _ _ (Array.getElem?_eq_getElem hmm);rw[Nat.mul_comm,Nat.div_add_mod]at g1 g2;rw[g1];simpa using g2
             ·rename_i hk;rw[List.getElem?_eq_none (by omega)]
            have hfit:xs.length*te.size+(flat us).length<=c.size:=by rw[hfl,q3,<-Nat.add_mul];exact Nat.mul_le_mul_right _ hroom
            have hr:=run_append_room (P:=P) w t ty (tyo ty') ie i5 j1 (g.α r).1 xs.length (g.α r).2 c q2 b ys.length cap (flat us) (by rw[hfl,j2]) hcells (qv9 (fun u hu=>(hones u hu).2)) hroom (by rw[j2];exact hfit);rw[j2,htake]at hr;have hset:=Set1.setRow w (g.α r).1 c (flat vs++flat us++c.toList.drop (xs.length*te.size+(flat us).length)).toArray (tyo ty') (0,0) q2
            have hac:=qwh.flat (rest:=c.toList.drop (xs.length*te.size+(flat us).length)) (cap:=(g.α r).2) (q1.append hus) hall h0 (by
             have hcl:c.toList.length=c.size:=by simp
             rw[happ,lC,lC,List.length_drop,hlv,hcl,<-q3]
             omega) q6
            rw[happ]at hac;obtain⟨hl2,hw2⟩:=hR.rw.setArr (xs':=xs++ys) har hset (by simp) hac q2 (fun _=>pre_cells (by rw[hlv]) htake);have hR2:=hR.turn hl2 hw2;refine⟨_,_,_,_,hr,hK,hR2.pt' hdn (.os rfl fun m hm=>?_)⟩;simp only[qzv,Option.some.injEq]at hm
            exact⟨by rw[<-hm];simp,fun _=>rfl⟩
          · have hr:=run_append_grow (P:=P) w t ty (tyo ty') ie te.zero i5 j1 j4 ⟨(g.α r).1,0,none⟩ xs.length (g.α r).2 (flat vs) (by rw[hlv,j2]) (fun j v hv=>by
              rw[Addr.add_none,Nat.zero_add];have hj:=getElem?_lt_of hv;rw[hlv]at hj
              have hi:j /te.size<vs.length:=by rw[<-q1.length];exact Nat.div_lt_of_lt_mul (by rw[Nat.mul_comm];exact hj)
              have hu:=lD hi
              have hmm:j%te.size<vs[j /te.size].cells.size:=by rw[(hvmem _ (List.getElem_mem hi)).1];exact Nat.mod_lt _ h0
              have g1:=zz4 (fun u hu=>(hvmem u hu).1) hu (Array.getElem?_eq_getElem hmm);have g2:=(q7 _ _ hu).2.2 _ _ (Array.getElem?_eq_getElem hmm);rw[Nat.mul_comm,Nat.div_add_mod]at g1 g2;rw[hv]at g1;simp only[World.cell?,q2];simp only[Option.isSome_none,Bool.false_eq_true,if_false]
              rw[g2,g1]) b ys.length cap (flat us) (by rw[hfl,j2]) hcells (by omega) (by omega) (growslice_fits (by omega) (by rw[j3];exact hby))
            have hge:=grownCap_ge w (xs.length+ys.length) (g.α r).2 (tyo ty');have hcm:=grownCap_le_maxLen w (xs.length+ys.length) (g.α r).2 (tyo ty') h63
            have hzs:(Builtin.zeroCells te.zero.cells (grownCap w (xs.length+ys.length) (g.α r).2 (tyo ty')-(xs.length+ys.length))).toList.length=(grownCap w (xs.length+ys.length) (g.α r).2 (tyo ty')-(xs.length+ys.length))*te.size:=by
             rw[Array.length_toList,size_zeroCells,j6]
            have hac:=qwh.flat (rest:=(Builtin.zeroCells te.zero.cells (grownCap w (xs.length+ys.length) (g.α r).2 (tyo ty')-(xs.length+ys.length))).toList) (cap:=grownCap w (xs.length+ys.length) (g.α r).2 (tyo ty'))
             (q1.append hus) hall h0 (by
               rw[happ,lC,lC,hlv,hfl,hzs,<-Nat.add_mul,<-Nat.add_mul]
               congr 1;omega) hcm
            rw[happ]at hac;obtain⟨hl2,hw2⟩:=hR.rw.regrow (xs':=xs++ys) har (New.drew w (.cells _ (tyo ty') (0,0))) (by simp;exact hm) hac;have hR2:=hR.turn hl2 hw2
            have hfin:=hR2.pt' (d:=d) hdn (x:=.os r te.size (xs.length+ys.length)) (v:=.slice (some ⟨w.heap.size,0,none⟩) (xs.length+ys.length) (grownCap w (xs.length+ys.length) (g.α r).2 (tyo ty'))) (.os rfl fun m hm=>by
             simp only[qzv,Option.some.injEq]at hm
             exact⟨by rw[<-hm];simp,fun _=>by simp only[qzv]⟩)
            have e2:(flat vs++flat us++(Builtin.zeroCells te.zero.cells (grownCap w (xs.length+ys.length) (g.α r).2 (tyo ty')-(xs.length+ys.length))).toList).toArray=
              (flat vs).toArray++(flat us).toArray++Builtin.zeroCells te.zero.cells (grownCap w (xs.length+ys.length) (g.α r).2 (tyo ty')-(xs.length+ys.length)):=by apply Array.ext';simp
            rw[e2]at hfin;exact⟨_,_,_,_,hr,hK,hfin⟩
     ·exact h.elim
   ·exact h.elim
 ·exact h.elim
theorem Rw.subB {bx bx':Bx}{ar:Ar}(h:Rw z g bx ar w)(hs:∀k b,bx' k=some b->bx k=some b):Rw z g bx' ar w:=
 ⟨⟨fun k b hk=>h.wd.box k b (hs k b hk),h.wd.arr,h.wd.len,h.wd.fx,fun k k' b b' hk hk'=>h.wd.inj k k' b b' (hs k b hk) (hs k' b' hk'),h.wd.inja,
   fun k r b a hk hr=>h.wd.injb k r b a (hs k b hk) hr,fun k b o hk=>h.wd.outb k b o (hs k b hk),h.wd.outa⟩,h.fr,⟨fun k b hk=>h.mine.box k b (hs k b hk),h.mine.arr,h.mine.le,h.mine.fix⟩,h.keys⟩
theorem lcsL_rp {sz:Nat}:∀{ys:List D} {us:List Value},Rps g.Φ ys us->ys.all D.flat=true->(∀u∈us,u.cells.size=sz/\∀v∈u.cells,v.oneCell'=true)->LRps g (ys.flatMap D.lcs) (flat us)
 |[],_,h,_,_=>by cases h;exact .nil
 |y::ys,_,h,hf,ho=>by
  cases h with
  |cons h t=>
   rw[List.all_cons,Bool.and_eq_true]at hf;simp only[List.flatMap_cons,flat];exact(D.lcs_rp h hf.1).append (lcsL_rp t hf.2 (fun u hu=>ho u (List.mem_cons_of_mem _ hu)))
theorem uns_rp:∀vs:List Value,LRps g (List.replicate vs.length .un) vs
 |[]=>.nil
 |v::vs=>by rw[lB,List.replicate_succ];exact .cons (.un v) (uns_rp vs)
theorem zvq {z:Array Value}{n:Nat}{v:Value}(h:v∈Builtin.zeroCells z n):v∈z:=by
 simp only[Builtin.zeroCells,Array.mem_map,Array.mem_range]at h;obtain⟨i,hi,rfl⟩:=h
 have h0:0<z.size:=Nat.pos_of_ne_zero fun e=>by rw[e]at hi;simp at hi
 have h1:i%z.size<z.size:=Nat.mod_lt _ h0;rw[getElem!_pos z _ h1];exact Array.getElem_mem h1
theorem imm_pt (hR:R z g ds s a w){d:Tmp}(hd:d<s.n)(v:Value):R z g ds {s with tm:=put d (.d (.imm v)) s.tm} (a.put (some d) v) w:=hR.pt' hd (.d (.imm v))
theorem appS_run [Stb E z] (ht:TOK P E.tl)(hzt:ZOK E.tl)(hR:R z g ds s a w){d:Tmp}(hdn:d<s.n){t e:TypeId}{ti te:TI}(hti:E.ti t=some ti)(hte:E.ti e=some te)(hd:ti.desc=.sli e)(h0:0<te.size)(hty:e<1000000)
  {x:LV}{xv yv:Value}(hx:LRp g x xv){ys:List D}
  (hsrc:(ys=[]/\∃b cap,yv=.slice b 0 cap)\/(ys≠[]/\∃us b cap,yv=.slice (some b) ys.length cap/\Rps g.Φ ys us/\(flat us).length=ys.length*te.size/\
      (∀j v,(flat us)[j]?=some v->w.cell? (b.add j)=some v)/\(∀u∈us,u.cells.size=te.size/\∀v∈u.cells,v.oneCell'=true)))
  {K:S->Prop}(h:appS E s d e te x ys K)(ty:TypeId):
  ∃v g' s' w',(Builtin.append_ #[t,t] ty #[xv,yv]).run P w=.ok v w'/\K s'/\R z g' ds s' (a.put (some d) v) w':=by
 obtain⟨he,hfl,hz1,h⟩:=h;obtain⟨info,d0,i1,i2,i3,i4,i5,hd0,i6⟩:=ht t ti (qq1 hti);obtain⟨ie,d1,j1,j2,j3,j4,j5,_,j6,_⟩:=ht e te (qq1 hte);obtain rfl:=qky (hd0.trans hd);have hnt:=hzt e te (qq1 hte);have hzc:LRps g (vcs te.zero) te.zero.cells.toList:=TOK.vcs (P:=P) (tl:=E.tl) g (fun vs e'=>by rw[e']at hnt;simp[zx1]at hnt)
 have hz2:∀k,∀v∈(Builtin.zeroCells te.zero.cells k).toList,v.oneCell'=true:=fun k v hv=>zwr hzc hz1 v (by
  have:=zvq (by simpa using hv:v∈Builtin.zeroCells te.zero.cells k)
  simpa using this)
 have fresh:∀(bx:Bx),(∀k b,bx k=some b->s.bx k=some b)->∀(pre:List LV) (vs:List Value) (n old:Nat),LRps g pre vs->(∀v∈vs,v.oneCell'=true)->vs.length=n*te.size->∀us,Rps g.Φ ys us->(flat us).length=ys.length*te.size->(∀u∈us,u.cells.size=te.size/\∀v∈u.cells,v.oneCell'=true)->
   bx (w.heap.size+1000000)=none/\R z g ds (s.nSl d w.heap.size (n+ys.length) (grownCap w (n+ys.length) old e) (elC te.size (n+ys.length) (grownCap w (n+ys.length) old e) pre ys) e bx)
    (a.put (some d) (.slice (some ⟨w.heap.size,0,none⟩) (n+ys.length) (grownCap w (n+ys.length) old e)))
    (w.drew.alloc (.cells (vs.toArray++(flat us).toArray++Builtin.zeroCells te.zero.cells (grownCap w (n+ys.length) old e-(n+ys.length))) e)):=by
  intro bx hsub pre vs n old hpre hvo hvl us hus hfu huo;refine⟨?_,?_⟩
  · cases hb:bx (w.heap.size+1000000)with
    |none=>rfl
    |some b=>
     have:=hR.wd.lt_box (hsub _ _ hb);rw[Stb.get he hR.rw]at this;omega
  · have hz3:=hz2 (grownCap w (n+ys.length) old e-(n+ys.length))
    have hzl:(Builtin.zeroCells te.zero.cells (grownCap w (n+ys.length) old e-(n+ys.length))).toList.length=(grownCap w (n+ys.length) old e-(n+ys.length))*te.size:=by
     rw[Array.length_toList,size_zeroCells,j6]
    have hc:LRps g (elC te.size (n+ys.length) (grownCap w (n+ys.length) old e) pre ys) (vs++flat us++(Builtin.zeroCells te.zero.cells (grownCap w (n+ys.length) old e-(n+ys.length))).toList):=by
     unfold elC;refine(hpre.append (lcsL_rp hus hfl huo)).append ?_;rw[<-hzl];exact uns_rp _
    have e2:(vs++flat us++(Builtin.zeroCells te.zero.cells (grownCap w (n+ys.length) old e-(n+ys.length))).toList).toArray=vs.toArray++(flat us).toArray++Builtin.zeroCells te.zero.cells (grownCap w (n+ys.length) old e-(n+ys.length)):=by
     apply Array.ext';simp
    have hw:=Rw.newS he (hR.rw.subB hsub) (ty:=e) (by rw[qqq hty];exact New.drew w (.cells (vs++flat us++(Builtin.zeroCells te.zero.cells (grownCap w (n+ys.length) old e-(n+ys.length))).toList).toArray e (0,0))) hc (fun v hv=>by
     simp only[List.mem_append]at hv
     rcases hv with(hv|hv)|hv
     ·exact hvo v hv
     ·exact qv9 (fun u hu=>(huo u hu).2) v hv
     ·exact hz3 v hv)
    rw[e2]at hw;have hp:=imm_pt hR hdn (.slice (some ⟨w.heap.size,0,none⟩) (n+ys.length) (grownCap w (n+ys.length) old e));exact⟨hp.size,hp.defers,hp.tm,hw⟩
 split at h
 · rename_i p ep;obtain rfl:=LV.ss_eq ep;obtain⟨ho,bb,hbb,hbt,hle,hlen,hnc,h63,hby,hnil,hcons⟩:=h;have hx':=hx.unD;cases hx';obtain⟨B,o,n,c⟩:=p;simp only at ho hbb hle hlen hnc h63 hby hnil hcons⊢;subst ho hbt;obtain⟨vs,hvs,hh,hone⟩:=hR.wd.box _ bb hbb;rw[qqq hty,Stb.get he hR.rw]at hh;have hvl:=hvs.length
   rcases hsrc with⟨rfl,b,cap,rfl⟩|⟨hn,us,b,cap,rfl,hus,hfu,hcells,huo⟩
   ·exact⟨_,g,_,w,qx0 w t ty bb.ty ie i5 j1 _ _ _ hnc b cap,hnil rfl,hR.pt (d:=some d) hdn hx⟩
   · have hm:0<ys.length:=List.length_pos_iff.2 hn
     have hcl:n*te.size<=vs.length:=by rw[<-hvl];exact Nat.le_trans (Nat.mul_le_mul_right _ hnc) hle
     have hdel:∀k b',del (B+1000000) s.bx k=some b'->s.bx k=some b':=fun k b' hk=>(qjv hk).2
     by_cases hroom:n+ys.length<=c
     · have hlen:=hlen hroom
       have hfit:n*te.size+(flat us).length<=vs.toArray.size:=by
        rw[hfu,<-Nat.add_mul];simp only[List.size_toArray];rw[<-hvl,hlen];exact Nat.mul_le_mul_right _ hroom
       have hr:=run_append_room (P:=P) w t ty bb.ty ie i5 j1 B n c vs.toArray hh b ys.length cap (flat us) (by rw[hfu,j2]) hcells (qv9 (fun u hu=>(huo u hu).2)) hroom (by rw[j2];exact hfit);rw[j2]at hr;have hset:=Set1.setRow w B vs.toArray (vs.toArray.toList.take (n*te.size)++flat us++vs.toArray.toList.drop (n*te.size+(flat us).length)).toArray bb.ty (0,0) hh
       have hc:LRps g (elC te.size (n+ys.length) c (bb.cells.take (n*te.size)) ys) (vs.toArray.toList.take (n*te.size)++flat us++vs.toArray.toList.drop (n*te.size+(flat us).length)):=by
        unfold elC;refine((hvs.take _).append (lcsL_rp hus hfl huo)).append ?_
        have:(vs.toArray.toList.drop (n*te.size+(flat us).length)).length=(c-(n+ys.length))*te.size:=by
         rw[List.length_drop,hfu,<-Nat.add_mul];simp only[List.size_toArray]at hfit
         show vs.length-_=_
         rw[<-hvl,hlen,Nat.sub_mul]
        rw[<-this];exact uns_rp _
       have hw:=hR.rw.setBox hbb (cs:=elC te.size (n+ys.length) c (bb.cells.take (n*te.size)) ys) (by rw[Stb.get he hR.rw,qqq hty];exact hset) hc (fun v hv=>by
        simp only[List.mem_append]at hv
        rcases hv with(hv|hv)|hv
        ·exact hone v (List.mem_of_mem_take hv)
        ·exact qv9 (fun u hu=>(huo u hu).2) v hv
        ·exact hone v (List.mem_of_mem_drop hv))
       have heq:put (B+1000000) ⟨elC te.size (n+ys.length) c (bb.cells.take (n*te.size)) ys,bb.ty⟩ s.bx=put (B+1000000) ⟨elC te.size (n+ys.length) c (bb.cells.take (n*te.size)) ys,bb.ty⟩ (del (B+1000000) s.bx):=by
        funext k
        by_cases e:k=B+1000000
        ·subst e;rw[qz7,qz7]
        ·rw[qqr _ _ e,qqr _ _ e];unfold del;rw[if_neg e]
       rw[heq]at hw;have hp:=imm_pt hR hdn (.slice (some ⟨B,0,none⟩) (n+ys.length) c);exact⟨_,g,_,_,hr,hcons hn B c (by unfold del;rw[if_pos rfl]) hroom,⟨hp.size,hp.defers,hp.tm,hw⟩⟩
     · have hr:=run_append_grow (P:=P) w t ty bb.ty ie te.zero i5 j1 j4 ⟨B,0,none⟩ n c (vs.take (n*te.size)) (by rw[List.length_take,j2];omega) (fun j v hv=>by
         rw[Addr.add_none,Nat.zero_add];rw[List.getElem?_take]at hv;split at hv
         ·simp only[World.cell?,hh];simpa using hv
         ·cases hv) b ys.length cap (flat us) (by rw[hfu,j2]) hcells (by omega) (by omega) (growslice_fits (by omega) (by rw[j3];exact hby))
       obtain⟨h1,h2⟩:=fresh (del (B+1000000) s.bx) hdel (bb.cells.take (n*te.size)) (vs.take (n*te.size)) n c (hvs.take _) (fun v hv=>hone v (List.mem_of_mem_take hv)) (by rw[List.length_take];omega) us hus hfu huo;exact⟨_,g,_,_,hr,hcons hn _ _ h1 (grownCap_ge w (n+ys.length) c bb.ty),h2⟩
 · split at h
   · rename_i xd;obtain⟨⟨xs,fx⟩,hxs,hx0,hfull,h63,hby,hnil,hcons⟩:=h;simp only at hx0 hfull;subst hx0 hfull
     obtain⟨a',rfl⟩:∃a',xv=.slice a' 0 0:=by
      rcases qw1 hx.unD hxs with⟨_,a',cap,rfl,hf,ha⟩|⟨hn,_⟩
      ·exact⟨a',by rw[hf rfl]⟩
      ·exact absurd rfl hn
     rcases hsrc with⟨rfl,b,cap,rfl⟩|⟨hn,us,b,cap,rfl,hus,hfu,hcells,huo⟩
     ·exact⟨_,g,_,w,qx0 w t ty e ie i5 j1 _ _ _ (Nat.le_refl _) b cap,hnil rfl,hR.pt (d:=some d) hdn hx⟩
     · have hm:0<ys.length:=List.length_pos_iff.2 hn;obtain⟨h1,h2⟩:=fresh s.bx (fun _ _ h=>h) [] [] 0 0 .nil (fun v hv=>by cases hv) (by simp) us hus hfu huo;have hge:=grownCap_ge w (0+ys.length) 0 e
       cases a' with
       |none=>
        have hr:=run_append_nil (P:=P) w t ty e ie te.zero i5 j1 j4 b ys.length cap (flat us) (by rw[hfu,j2]) hcells hm (by omega) (by rw[j3];omega);simp only[Nat.zero_add,Array.empty_append]at h1 h2 hge;exact⟨_,g,_,_,hr,hcons hn _ _ h1 hge,h2⟩
       |some a'=>
        have hr:=run_append_grow (P:=P) w t ty e ie te.zero i5 j1 j4 a' 0 0 [] (by simp) (fun j v hv=>by simp at hv) b ys.length cap (flat us) (by rw[hfu,j2]) hcells (by omega) (by omega)
         (growslice_fits (by omega) (by rw[j3];simpa using hby))
        simp only[Nat.zero_add]at h1 h2 hge hr;exact⟨_,g,_,_,hr,hcons hn _ _ h1 hge,h2⟩
   ·exact h.elim
theorem u_of {x:D}{vs:List Value}(h:LRps g x.lcs vs)(ho:∀v∈vs,v.oneCell'=true):∃u,Rp g.Φ x u/\u.cells.toList=vs:=by
 have one1:x.lcs=[.d x]->∃u,Rp g.Φ x u/\u.cells.toList=vs:=fun e=>by
  rw[e]at h
  cases h with
  |cons h t=>
   cases t
   exact⟨_,h.unD,by rw[qkz (ho _ (List.mem_cons_self ..))]⟩
 cases x with
 |ag xs=>exact⟨.agg vs.toArray,.ag (LRps.toD h),rfl⟩
 |_=>exact one1 rfl
theorem us_of {sz:Nat}:∀{ys:List D} {vs:List Value},LRps g (ys.flatMap D.lcs) vs->ys.all (D.el sz)=true->(∀v∈vs,v.oneCell'=true)->∃us,Rps g.Φ ys us/\flat us=vs/\∀u∈us,u.cells.size=sz/\∀v∈u.cells,v.oneCell'=true
 |[],vs,h,_,_=>by cases h;exact⟨[],.nil,rfl,fun u hu=>by cases hu⟩
 |y::ys,vs,h,he,ho=>by
  rw[List.flatMap_cons]at h;rw[List.all_cons,Bool.and_eq_true]at he;have h1:=h.take y.lcs.length;have h2:=h.drop y.lcs.length;rw[List.take_left]at h1;rw[List.drop_left]at h2
  obtain⟨u,hu,hc⟩:=u_of h1 fun v hv=>ho v (List.mem_of_mem_take hv)
  obtain⟨us,hus,hf,ha⟩:=us_of h2 he.2 fun v hv=>ho v (List.mem_of_mem_drop hv)
  have hl:y.lcs.length=sz:=by
   have:=he.1;unfold D.el at this;simp only[Bool.and_eq_true,beq_iff_eq]at this;rw[<-this.1.2];cases y<;>simp[D.lcs,D.cs]
  refine⟨u::us,.cons hu hus,?_,fun w hw=>?_⟩
  · show u.cells.toList++flat us=vs
    rw[hc,hf,List.take_append_drop]
  · rcases List.mem_cons.1 hw with rfl|hw
    · refine⟨?_,fun v hv=>ho v (List.mem_of_mem_take (i:=y.lcs.length) ?_)⟩
      ·have:=congrArg List.length hc;rw[<-h1.length,Array.length_toList,hl]at this;exact this
      ·rw[<-hc];simpa using hv
    ·exact ha w hw
theorem appK_run [Stb E z] (ht:TOK P E.tl)(hzt:ZOK E.tl)(hR:R z g ds s a w){d:Option Tmp}{t:TypeId}{x y:LV}{xv yv:Value}(hx:LRp g x xv)(hy:LRp g y yv){K:S->Prop}(h:appK E s d t x y K)(ty:TypeId):
  ∃v g' s' w',(Builtin.append_ #[t,t] ty #[xv,yv]).run P w=.ok v w'/\K s'/\R z g' ds s' (a.put d v) w':=by
 unfold appK at h;split at h
 · obtain ⟨ti,hti,h⟩:=h;split at h
   · rename_i e d hd _;obtain⟨te,hte,h0,hty,hdn,h⟩:=h;split at h
     · rename_i yd;unfold appY at h;split at h
       · rename_i b n c;obtain⟨he,bb,hbb,hbt,ys,rfl,hel,hcs,h⟩:=h;refine appS_run ht hzt hR hdn hti hte hd h0 hty hx ?_ h ty;have hy':=hy.unD;cases hy';obtain⟨vs,hvs,hh,hone⟩:=hR.wd.box _ bb hbb;rw[qqq (hbt▸hty),Stb.get he hR.rw]at hh;have hv1:=hvs.take (ys.length*te.size);rw[hcs]at hv1
         obtain⟨us,hus,hfl,hall⟩:=us_of hv1 hel fun v hv=>hone v (List.mem_of_mem_take hv)
         cases ys with
         |nil=>exact .inl ⟨rfl,_,_,rfl⟩
         |cons y ys=>
          refine .inr ⟨List.cons_ne_nil _ _,us,_,_,rfl,hus,?_,fun j v hv=>?_,hall⟩
          ·rw[qjd fun u hu=>(hall u hu).1,hus.length]
          · rw[hfl]at hv;rw[Addr.add_none,Nat.zero_add];rw[List.getElem?_take]at hv;split at hv
            ·simp only[World.cell?,hh];simpa using hv
            ·cases hv
       obtain⟨⟨ys,fy⟩,hys,h⟩:=h;refine appS_run ht hzt hR hdn hti hte hd h0 hty hx ?_ h ty
       rcases qw1 hy.unD hys with⟨rfl,a',cap,rfl,hf,ha⟩|⟨hn,us,b,off,cap,rfl,hus,hsz,hc,hcap,hf⟩
       ·exact .inl ⟨rfl,_,_,rfl⟩
       · obtain⟨h1,h2,h3⟩:=zk7 hR.wd hsz hc h0
         exact .inr ⟨hn,us,_,_,rfl,hus,by rw[h1,hus.length],h2,h3⟩
     ·exact h.elim
   ·exact h.elim
 ·exact appK0_run ht hR hx hy h ty
theorem cvD_rp (Φ:Nat->Nat->Option Value)(v:Value):Rp Φ (cvD v) v:=by
 cases v with
 |agg cs=>
  simp only[cvD];have:=Rp.ag (zwg Φ cs.toList);simpa using this
 |_=>simp only[cvD];exact cvd_rp _ _
theorem Rps.replicate {Φ:Nat->Nat->Option Value}{x:D}{v:Value}(h:Rp Φ x v):∀n,Rps Φ (List.replicate n x) (List.replicate n v)
 |0=>.nil
 |n+1=>.cons h (Rps.replicate h n)
theorem mksK_run (ht:TOK P E.tl)(hR:R z g ds s a w){d:Option Tmp}{t:TypeId}{l c:LV}{lv cv':Value}(hl:LRp g l lv)(hc:LRp g c cv'){K:S->Prop}(h:mksK E s d t l c K):
  ∃v g' s' w',(Instr.makeSlice t lv cv').run P w=.ok v w'/\K s'/\R z g' ds s' (a.put d v) w':=by
 obtain⟨ti,hti,h⟩:=h;split at h
 · rename_i k n k' m e d hd;obtain⟨te,hte,rfl,hn0,hnb,h0,hby,hty,hdn,hel,hz,hnz⟩:=h;have hl':=hl.unD;have hc':=hc.unD;cases hl';cases hc';obtain⟨info,d0,i1,i2,i3,i4,i5,hd0,i6⟩:=ht t ti (qq1 hti);obtain⟨ie,d1,j1,j2,j3,j4,j5,_,j6,_⟩:=ht e te (qq1 hte);obtain rfl:=qky (hd0.trans hd);obtain⟨e1,e2⟩:=zwb (cvD_rp g.Φ te.zero) hel
   have hr:=run_make (P:=P) w t e ie te.zero i5 j1 j4 k k' n n hn0 (Int.le_refl _) (by
    rw[j3];have:(te.bytes:Int)*n<=16777216*16777216:=Int.mul_le_mul (by omega) hnb hn0 (by omega)
    omega) (by omega)
   have hsz:(madeCells te.zero.cells (n.toNat*ie.size)).size=n.toNat*te.size:=by rw[size_madeCells,j2]
   by_cases hn:n=0
   · subst hn
     obtain⟨hl4,hw4⟩:=hR.rw.newFix (New.alloc w (.cells (madeCells te.zero.cells (Int.toNat 0*ie.size)) e (0,0))) (fun v hv=>by
      have:(madeCells te.zero.cells (Int.toNat 0*ie.size))=#[]:=by apply Array.eq_empty_of_size_eq_zero;rw[hsz];simp
      rw[this]at hv;simp at hv)
     have hR4:=hR.turn hl4 hw4;exact⟨_,_,_,_,hr,hz rfl,hR4.pt (d:=some d) hdn (.d (.sl0 _ _ _ _ (fun _=>by simp) (fun e=>by cases e)))⟩
   · have hac:qwh g.Φ te.size n.toNat (List.replicate n.toNat (cvD te.zero)) (madeCells te.zero.cells (n.toNat*ie.size)):=by
      refine⟨List.replicate n.toNat te.zero,Rps.replicate (cvD_rp _ _) _,hsz,by simp,h0,by unfold maxLen;omega,fun i u hu=>?_⟩
      rw[List.getElem?_replicate]at hu;split at hu
      · rename_i hi;simp only[Option.some.injEq]at hu;subst hu
        refine⟨e1,e2,fun j x hj=>?_⟩
        have hj1:j<te.zero.cells.size:=(Array.getElem?_eq_some_iff.1 hj).1
        have hlt:i*te.size+j<n.toNat*te.size:=by
         have:(i+1)*te.size<=n.toNat*te.size:=Nat.mul_le_mul_right _ hi;rw[Nat.add_mul]at this;omega
        have hm:(i*te.size+j)%te.zero.cells.size=j:=by
         rw[e1,Nat.add_comm,Nat.add_mul_mod_self_right];exact Nat.mod_eq_of_lt (by omega)
        rw[j2];simp only[madeCells,Array.getElem?_map];rw[Array.getElem?_range,if_pos hlt];simp only[Option.map_some,hm,Option.some.injEq];rw[getElem!_pos te.zero.cells j hj1];exact(Array.getElem?_eq_some_iff.1 hj).2
      ·cases hu
     have:=naR (d:=d) hR hdn hty (New.alloc w (.cells _ e (0,0))) hac;rw[List.length_replicate]at this;exact⟨_,_,_,_,hr,hnz hn,this⟩
 ·exact h.elim
theorem opK_run [Stb E z] (ht:TOK P E.tl)(hzt:ZOK E.tl)(hsp:∀f Sp,sp f=some Sp->OKX P f Sp)(hR:R z g ds s a w){o:Oper}{K:S->Prop}{Kp:D->S->Prop}(h:opK E sp o s K Kp)
  {next:Act->World->Prop}{Q:Exit->Act->World->Prop}(hn:∀g' s' a' w',K s'->R z g' ds s' a' w'->next a' w')
  (hp:∀g' d v s' w',Kp d s'->Rp g'.Φ d v->R z g' ds s' a w'->Q (.panic [{v:=v,recovered:=false}]) a w'):o.wp P a w next Q:=by
 have val:∀(h:valK E o.op s fun x=>dOk s o.dst/\K (s.pt o.dst x)),o.wp P a w next Q:=by
  intro h;obtain⟨r,q,⟨hd,hK⟩,hr,hrun⟩:=zk0 ht hzt hR h;unfold Oper.wp;rw[hrun];exact hn _ _ _ _ hK (hR.pt hd hr)
 unfold opK at h;split at h
 · rename_i t p x e;obtain⟨hd,pv,hpv,xv,hxv,h⟩:=h;obtain⟨g',s',w',hK,hR',hrun⟩:=storK_run ht hR (qqh hR hpv) (qqh hR hxv) h;unfold Oper.wp
   have:(execOp a.eval o).run P w=.ok .skip w':=by simp[execOp,e,hrun]
   rw[this,Oper.upon_skip,hd];exact hn _ _ _ _ hK hR'
 · rename_i t e;obtain⟨i,hi,h⟩:=h;have hz:=ht.zero hi w;have hnt:=hzt t i (qq1 hi);have hc:LRps g (vcs i.zero) i.zero.cells.toList:=TOK.vcs (P:=P) (tl:=E.tl) g (fun vs e'=>by rw[e']at hnt;simp[zx1]at hnt);have:=zwj hR hc h hn;unfold Oper.wp
   have hrun:(execOp a.eval o).run P w=.ok (.value (.pointer (some ⟨w.heap.size,0,none⟩))) (w.alloc (.cells i.zero.cells.toList.toArray t)):=by
    simp[execOp,e,Instr.alloc,hz,newVar,newRow]
   rw[hrun];exact this
 · rename_i t x e;obtain⟨i,hi,xv,hxv,cs,hcs,h⟩:=h;have:=zwj hR (pcs_rp (qqh hR hxv) hcs) h hn;unfold Oper.wp
   have hrun:(execOp a.eval o).run P w=.ok (.value (.pointer (some ⟨w.heap.size,0,none⟩))) (w.alloc (.cells (a.eval x).cells.toList.toArray t)):=by
    simp[execOp,e,Instr.box,newVar,newRow]
   rw[hrun];exact this
 · rename_i t len ps e;obtain⟨v,g',s',w',hrun,hK,hR'⟩:=bslK_run ht hR h;unfold Oper.wp
   have hps:(ps.map fun x=>match x with|(i,x)=>(i,a.eval x))=(ps.toList.map fun p=>(p.1,a.eval p.2)).toArray:=by
    apply Array.ext';simp
   have hrun':(execOp a.eval o).run P w=.ok (.value v) w':=by
    simp only[execOp,e,Sem.run_bind];rw[hps,hrun];rfl
   rw[hrun'];exact hn _ _ _ _ hK hR'
 · rename_i args tys e;split at h
   · rename_i x y t t' hargs htys;obtain⟨rfl,xv,hxv,yv,hyv,h⟩:=h
     obtain rfl:args=#[x,y]:=by apply Array.ext';simpa using hargs
     obtain rfl:tys=#[t,t]:=by apply Array.ext';simpa using htys
     obtain⟨v,g',s',w',hrun,hK,hR'⟩:=appK_run ht hzt hR (qqh hR hxv) (qqh hR hyv) h o.type;unfold Oper.wp
     have hrun':(execOp a.eval o).run P w=.ok (.value v) w':=by
      simp[execOp,e,resolve,invoke,builtin,hrun]
     rw[hrun'];exact hn _ _ _ _ hK hR'
   ·exact h.elim
 ·rename_i f args tys e;obtain⟨fv,hfv,as,has,h⟩:=h;obtain⟨_,_,h3⟩:=zq3 hR has;refine callK_run hsp hR e (qqh hR hfv) (as:=as.map (·.2)) ?_ h hn hp;simpa[List.map_map,Function.comp_def]using h3
 · rename_i x e;obtain⟨xv,hxv,h⟩:=h;have hv:=qqh hR hxv;split at h
   · have:=hv.unD;cases hx:a.eval x<;>rw[hx]at this<;>cases this;rename_i t y u hy;unfold Oper.wp
     have hrun:(execOp a.eval o).run P w=.halt (.panic (.iface t u)) w:=by
      simp[execOp,e,hx,Instr.panic]
     rw[hrun];exact hp _ _ _ _ _ h (.ifc t hy) hR
   ·exact h.elim
 · rename_i t e;obtain⟨q,g',s',w',hK,hR',hrun⟩:=mkmK_run (P:=P) hR h t;unfold Oper.wp
   have hrun':(execOp a.eval o).run P w=.ok (.value q) w':=by simp[execOp,e,hrun]
   rw[hrun'];exact hn _ _ _ _ hK hR'
 · rename_i t m k x e;obtain⟨hd,mv,hmv,kv,hkv,xv,hxv,h⟩:=h;obtain⟨m',h,hm'⟩:=zvp h hR.rw (qqh hR hmv);obtain⟨s',w',hK,hR',hrun⟩:=insK_run ht hR hm' (qqh hR hkv) (qqh hR hxv) h;unfold Oper.wp
   have hrun':(execOp a.eval o).run P w=.ok .skip w':=by simp[execOp,e,hrun]
   rw[hrun',Oper.upon_skip,hd];exact hn _ _ _ _ hK hR'
 · rename_i t m k x e;obtain⟨hd,mv,hmv,kv,hkv,xv,hxv,h⟩:=h;obtain⟨m',h,hm'⟩:=zvp h hR.rw (qqh hR hmv);obtain⟨s',w',hK,hR',hrun⟩:=insK_run ht hR hm' (qqh hR hkv) (qqh hR hxv) h;unfold Oper.wp
   have hrun':(execOp a.eval o).run P w=.ok .skip w':=by simp[execOp,e,hrun]
   rw[hrun',Oper.upon_skip,hd];exact hn _ _ _ _ hK hR'
 · rename_i t x e;obtain⟨xv,hxv,h⟩:=h;obtain⟨q,g',s',w',hK,hR',hrun⟩:=rngK_run ht hR (qqh hR hxv) h;unfold Oper.wp
   have hrun':(execOp a.eval o).run P w=.ok (.value q) w':=by simp[execOp,e,hrun]
   rw[hrun'];exact hn _ _ _ _ hK hR'
 · rename_i it e;obtain⟨xv,hxv,h⟩:=h;obtain⟨q,y,s',w',hK,hd,hy,hR',hrun⟩:=nxtK_run (P:=P) hR (qqh hR hxv) h o.type;unfold Oper.wp
   have hrun':(execOp a.eval o).run P w=.ok (.value q) w':=by simp[execOp,e,hrun]
   rw[hrun'];exact hn _ _ _ _ hK (hR'.pt hd hy)
 · rename_i it e;obtain⟨xv,hxv,h⟩:=h;obtain⟨q,y,hK,hd,hy,hrun⟩:=entK_run (P:=P) hR (qqh hR hxv) h;unfold Oper.wp
   have hrun':(execOp a.eval o).run P w=.ok (.value q) w:=by simp[execOp,e,hrun]
   rw[hrun'];exact hn _ _ _ _ hK (hR.pt hd hy)
 · rename_i t m k ok e;obtain⟨mv,hmv,kv,hkv,h⟩:=h;obtain⟨m',h,hm'⟩:=zvp h hR.rw (qqh hR hmv);obtain⟨q,y,⟨hd,hK⟩,hy,hrun⟩:=lukK_run ht hR hm' (qqh hR hkv) h;unfold Oper.wp
   have hrun':(execOp a.eval o).run P w=.ok (.value q) w:=by simp[execOp,e,hrun]
   rw[hrun'];exact hn _ _ _ _ hK (hR.pt hd hy)
 · rename_i t l c e;obtain⟨lv,hlv,cv',hcv,h⟩:=h;obtain⟨v,g',s',w',hrun,hK,hR'⟩:=mksK_run ht hR (qqh hR hlv) (qqh hR hcv) h;unfold Oper.wp
   have hrun':(execOp a.eval o).run P w=.ok (.value v) w':=by simp[execOp,e,hrun]
   rw[hrun'];exact hn _ _ _ _ hK hR'
 ·exact val h
end
mutual
def fzb (k:Nat)(ds:List D):LV->LV
 |.bp j off=>if j=k then .ep (.ag ds) off else .bp j off
 |.ag xs=>.ag (fzbL k ds xs)
 |.fn f xs ys=>.fn f (fzbL k ds xs) (fzbL k ds ys)
 |.tup xs=>.tup (fzbL k ds xs)
 |.mp j=>if j=k then .un else .mp j
 |.os j sz n=>.os j sz n
 |.ap j sz n i o=>.ap j sz n i o
 |.d x=>.d x
 |.ep x off=>.ep x off
 |.un=>.un
def fzbL (k:Nat)(ds:List D):List LV->List LV
 |[]=>[]
 |x::xs=>fzb k ds x::fzbL k ds xs
end
def Box.fzb (k:Nat)(ds:List D)(b:Box):Box:=⟨fzbL k ds b.cells,b.ty⟩
def S.fzb (s:S)(k:Nat)(ds:List D):S:={s with tm:=mapf (Lx.fzb k ds) s.tm,bx:=mapf (Box.fzb k ds) (del k s.bx)}
def fzbs:List Nat->S->(S->Prop)->Prop
 |[],s,K=>K s
 |k::ks,s,K=>sm (s.bx k) fun b=>frzs s b.cells fun _ s1=>sm (s1.bx k) fun b1=>b1.ty<1000000/\sm (allD b1.cells) fun ds=>fzbs ks (s1.fzb k ds) K
mutual
theorem LRp.fzb {g g':Gh}(hl:Gh.le g g'){k:Nat}{ds:List D}{us:List Value}(hus:Rps g'.Φ ds us)(hc:∀(j:Nat) (c:Value),us[j]?=some c->g'.Φ (g.β k) j=some c){y:LV}{v:Value}(h:LRp g y v):LRp g' (Lx.fzb k ds y) v:=by
 cases h with
 |d h=>simp only[Lx.fzb];exact .d (h.mono hl.Φ)
 |bp j off=>
  simp only[Lx.fzb];split
  · rename_i e;subst e
    have:=LRp.ep (g:=g') (x:=.ag ds) (u:=.agg us.toArray) (g.β j) 0 off (.ag hus) (fun i c hi=>by
     rw[Nat.zero_add];exact hc i c (by simpa[Value.cells]using hi))
    simpa using this
  ·rw[<-hl.β];exact .bp j off
 |mp j=>
  simp only[Lx.fzb];split
  ·exact .un _
  ·rw[<-hl.β];exact .mp j
 |os h1 h=>simp only[Lx.fzb];exact LRp.mono hl (.os h1 h)
 |ap h1 h=>simp only[Lx.fzb];exact LRp.mono hl (.ap h1 h)
 |ep b o off h hc=>simp only[Lx.fzb];exact LRp.mono hl (.ep b o off h hc)
 |ag h=>simp only[Lx.fzb];exact .ag (h.fzbL hl hus hc)
 |fn f h h'=>simp only[Lx.fzb];exact .fn f (h.fzbL hl hus hc) (h'.fzbL hl hus hc)
 |tup h=>simp only[Lx.fzb];exact .tup (h.fzbL hl hus hc)
 |un=>simp only[Lx.fzb];exact .un _
theorem LRps.fzbL {g g':Gh}(hl:Gh.le g g'){k:Nat}{ds:List D}{us:List Value}(hus:Rps g'.Φ ds us)(hc:∀(j:Nat) (c:Value),us[j]?=some c->g'.Φ (g.β k) j=some c){ys:List LV}{vs:List Value}(h:LRps g ys vs):LRps g' (Lx.fzbL k ds ys) vs:=by
 cases h with
 |nil=>simp only[Lx.fzbL];exact .nil
 |cons h t=>simp only[Lx.fzbL];exact .cons (h.fzb hl hus hc) (t.fzbL hl hus hc)
end
theorem R.fzb {z:Bg}{g:Gh}{ds:List Deferred}{s:S}{a:Act}{w:World}(h:R z g ds s a w){k:Nat}{b:Box}(hb:s.bx k=some b)(hty:b.ty<1000000){es:List D}(he:allD b.cells=some es):
  ∃g',R z g' ds (s.fzb k es) a w/\Gh.le g g':=by
 obtain⟨vs,h1,h2,h3⟩:=h.wd.box k b hb;rw[zqv he]at h1;have hvs:=h1.toD;rw[qqq hty]at h2
 have hle:Phi.le g.Φ (phi1 (g.β k) vs.length vs.toArray g.Φ):=by
  intro b' o v hv;unfold phi1;by_cases e:b'=g.β k/\o<vs.length
  ·rw[e.1,h.wd.outb k b o hb]at hv;cases hv
  ·rw[if_neg e];exact hv
 have hl:Gh.le g {g with Φ:=phi1 (g.β k) vs.length vs.toArray g.Φ}:=⟨rfl,hle,fun r m hm=>⟨m,hm,Nat.le_refl _,fun _=>rfl⟩⟩
 have hc:∀(j:Nat) (c:Value),vs[j]?=some c->phi1 (g.β k) vs.length vs.toArray g.Φ (g.β k) j=some c:=by
  intro j c hj;have:=(List.getElem?_eq_some_iff.1 hj).1;unfold phi1;rw[if_pos ⟨rfl,this⟩];simpa using hj
 have hbx:∀j b',mapf (Box.fzb k es) (del k s.bx) j=some b'->j≠k/\∃b0,s.bx j=some b0/\b'=Box.fzb k es b0:=by
  intro j b' hj;obtain⟨b0,h4,rfl⟩:=qxm hj;obtain⟨h5,h6⟩:=qjv h4;exact⟨h5,b0,h6,rfl⟩
 refine⟨{g with Φ:=phi1 (g.β k) vs.length vs.toArray g.Φ},⟨h.size,h.defers,fun j x hj=>?_,⟨⟨?_,?_,h.wd.len,?_,?_,h.wd.inja,?_,?_,?_⟩,h.rw.fr,⟨?_,h.rw.mine.arr,Phi.le_trans h.rw.mine.le hle,?_⟩,h.rw.keys⟩⟩,hl⟩
 ·obtain⟨y,hy,rfl⟩:=qxm hj;obtain⟨h4,h5⟩:=h.tm j y hy;exact⟨h4,h5.fzb hl (hvs.mono hle) hc⟩
 ·intro j b' hj;obtain⟨_,b0,h4,rfl⟩:=hbx j b' hj;obtain⟨us,h5,h6⟩:=h.wd.box j b0 h4;exact⟨us,h5.fzbL hl (hvs.mono hle) hc,h6⟩
 ·intro r sz ty xs hr;obtain⟨us,c,h4,h5⟩:=h.wd.arr r sz ty xs hr;exact⟨us,c,h4.mono hle,h5⟩
 · refine⟨fun b' o v hv=>?_,zxh h.wd.glo hle⟩
   simp only[phi1]at hv;split at hv
   · rename_i e;obtain⟨rfl,ho⟩:=e
     refine⟨by simp only[World.cell?,h2];simpa using hv,h3 v (List.mem_of_getElem? (by simpa using hv))⟩
   ·exact h.wd.fix b' o v hv
 ·intro j j' b' b'' hj hj' he;obtain⟨_,b0,h4,rfl⟩:=hbx j b' hj;obtain⟨_,b1,h5,rfl⟩:=hbx j' b'' hj';exact h.wd.inj j j' _ _ h4 h5 he
 ·intro j r b' a' hj hr;obtain⟨_,b0,h4,rfl⟩:=hbx j b' hj;exact h.wd.injb j r _ a' h4 hr
 · intro j b' o hj;obtain⟨hne,b0,h4,rfl⟩:=hbx j b' hj
   have:g.β j≠g.β k:=fun e=>hne (h.wd.inj j k _ _ h4 hb e)
   simp only[phi1,this,false_and,if_false];exact h.wd.outb j _ o h4
 · intro r a' o hr ho
   have:(g.α r).1≠g.β k:=fun e=>h.wd.injb k r _ _ hb hr e.symm
   simp only[phi1,this,false_and,if_false];exact h.wd.outa r a' o hr ho
 ·intro j b' hj;obtain⟨_,b0,h4,rfl⟩:=hbx j b' hj;exact h.rw.mine.box j _ h4
 · intro b' o v hv;simp only[phi1]at hv;split at hv
   · rename_i e
     rcases h.rw.mine.box k _ hb with h'|h'
     ·exact .inr (.inl (by rw[e.1];exact h'))
     ·exact .inr (.inr (by rw[e.1];exact h'))
   ·exact h.rw.mine.fix b' o v hv
theorem frz1_mono {K K':D->S->Prop}(h:∀d s,K d s->K' d s){x:LV}{s:S}(hk:frz1 s x K):frz1 s x K':=by
 unfold frz1 at hk⊢;split at hk
 ·exact h _ _ hk
 ·obtain⟨a,ha,h1,h2,h3⟩:=hk;exact⟨a,ha,h1,h2,h _ _ h3⟩
 ·exact hk.elim
theorem zjb:∀{xs:List LV} {K K':List D->S->Prop} (_:∀ds s,K ds s->K' ds s) {s:S},frzs s xs K->frzs s xs K'
 |[],K,K',h,s,hk=>h _ _ hk
 |x::xs,K,K',h,s,hk=>frz1_mono (fun d s1 hk=>zjb (fun ds s2 hk=>h _ _ hk) hk) hk
theorem zx9 {K K':S->Prop}(h:∀s,K s->K' s):∀{ks:List Nat} {s:S},fzbs ks s K->fzbs ks s K'
 |[],s,hk=>h s hk
 |k::ks,s,⟨b,hb,hk⟩=>⟨b,hb,zjb (fun _ s1 ⟨b1,hb1,ht,ds,hd,hk⟩=>⟨b1,hb1,ht,ds,hd,zx9 h hk⟩) hk⟩
theorem zz1 {z:Bg}{ds:List Deferred}{a:Act}{w:World}:∀{ks:List Nat} {g:Gh} {s:S} {K:S->Prop},R z g ds s a w->fzbs ks s K->∃g' s',K s'/\R z g' ds s' a w
 |[],g,s,K,hR,h=>⟨g,s,h,hR⟩
 |k::ks,g,s,K,hR,h=>by
  obtain⟨b,hb,h⟩:=h;obtain⟨vs,hvs,_,_⟩:=hR.wd.box k b hb;obtain⟨g1,_,s1,⟨b1,hb1,hty,es,he,h⟩,hR1,_,_,_⟩:=zv3 hR hvs h;obtain⟨g',hR',_⟩:=hR1.fzb hb1 hty he;exact zz1 hR' h
end Lx
