/- The machine over values: what is made with a length, and the builtins. -/
import Derived.Test.YthpmkmogoejjpaaGreatDoorVMG
set_option linter.unusedSimpArgs false
set_option linter.unusedVariables false
namespace Go.VM
open Go
variable {P : Program} {C : Ctx} {st st' : St} {a : Act} {w : World} {own : Own} {β : Nat → Option Nat}
variable {o : Oper} {next : Act → World → Prop} {Q : Exit → Act → World → Prop}
theorem wrap_i64_of {n:Int} (h0:0≤n) (h1:n≤9223372036854775807):IntKind.i64.wrap n=n:=by
 rw[wrap_iff];simp[IntKind.min,IntKind.max,IntKind.signed,IntKind.bits];omega
theorem makeSlice_sound (T:TOk P C.tt) (R:Rel C st a w own β) {t:Nat} {l c:Operand} (hop:o.op= .makeSlice t l c) (hd: ∀t,o.dst=some t→t<a.tmps.size) {slot:Option Nat} (hs:SlotOk st slot)
  (h:evOp C slot o st=some st') (hn:Next C st w own β a.tmps.size st' next):o.wp P a w next Q:=by
 simp only[evOp,hop] at h
 split at h
 ·rename_i k n k' m hl hc
  obtain⟨hle,_⟩:=inv_int (evO_sound R hl)
  obtain⟨hce,_⟩:=inv_int (evO_sound R hc)
  split at h
  ·rename_i hnm
   have:n=m:=eq_of_beq hnm
   subst this
   split at h
   ·rename_i v st1 hmk
    cases h
    unfold evMake at hmk
    split at hmk
    ·rename_i e _ _ _ _ _ hti
     obtain⟨info,ds,z',row⟩:=T.get hti
     have:=row.slice rfl;subst this
     split at hmk
     ·rename_i j hj
      obtain⟨info',ds',z'',rowj⟩:=T.get hj
      cases hck:decide (0≤n) && decide (n≤9223372036854775807) && decide ((j.bytes:Int)*n≤281474976710656) && Nat.blt 0 j.size with
      |false=>rw[hck] at hmk;cases hmk
      |true=>
      rw[hck] at hmk
      simp only[cond_true] at hmk
      simp only[Bool.and_eq_true,decide_eq_true_eq] at hck
      obtain⟨⟨⟨h0,h1⟩,h2⟩,h3⟩:=hck
      have hpos:0<j.size:=by simpa[Nat.blt_eq] using h3
      obtain⟨z,hz,hzr,hzs⟩:=repL_zero (w:=w) (own:=own) (β:=β) T hj
      obtain⟨A,hA⟩: ∃A:Array Value,A=(Array.range (n.toNat*j.size)).map (fun i=>z.cells[i % z.cells.size]!):=⟨_,rfl⟩
      have hA' :A=(Array.range (n.toNat*z.cells.size)).map (fun i=>z.cells[i % z.cells.size]!):=by rw[hA];congr 2;rw[hzs]
      have h0' :RepL w own β A (rep n.toNat (j.zero.map .d)):=by rw[hA'];exact repL_rep (n:=n.toNat) hzr (by omega)
      have hAs:A.size=n.toNat*j.size:=by rw[hA];simp
      have hw:=wrap_i64_of h0 h1
      have hnm:n.toNat≤maxLen:=by unfold maxLen;omega
      have hrun:(execOp a.eval o).run P w= .ok (.value (.slice (some ⟨w.heap.size,0,none⟩) n.toNat n.toNat)) (w.alloc (.cells A e (0,0))):=by
       have c1: ¬n<0:=by omega
       have c2: ¬281474976710656<(info'.bytes:Int)*n:=by rw[rowj.bytes];omega
       simp only[execOp,hop,Instr.makeSlice,Sem.run_bind,row.run_und,Result.andThen_ok,hle,hce,asInt,asIntOf,Sem.run_pure,rowj.run_info,hw]
       by_cases c3:n.toNat*j.size=0
       ·have e3: ∀f:Nat→Value,Array.map f (Array.range 0)= #[]:=fun f=>Array.eq_empty_of_size_eq_zero (by simp)
        have e4:A= #[]:=by rw[hA,c3];exact e3 _
        rw[e4]
        simp[c1,c2,c3,e3,rowj.run_size,newRow]
       ·simp[c1,c2,c3,hz,rowj.run_size,newRow,hA]
      refine wp_value hrun ?_
      have hnew:=heap_alloc_new w (.cells A e (0,0))
      split at hmk
      ·rename_i k hk
       cases hmk
       have hs1:j.size=1:=rowj.one hk
       have hd1:=rowj.int hk
       have R2:=R.newB hs (B:= .ints false k (List.replicate n.toNat 0)) (arr:=A) (e:=e) (fun own' β' hβ hsub ho=>
        .ints false k _ _ e hnew (by simp[hAs,hs1]) (fun i x hx=>by
         have hx' :x=0∧i<n.toNat:=by
          rw[List.getElem?_replicate] at hx
          split at hx
          ·exact⟨by cases hx;rfl,by assumption⟩
          ·cases hx
         obtain⟨rfl,hlt⟩:=hx'
         rw[hA',rangeMap_getD _ _ _ (by rw[hzs,hs1];omega)]
         have em:i % z.cells.size=0:=by rw[hzs,hs1,Nat.mod_one]
         rw[em]
         have hz0:(z.cells.getD 0 undef)= .int k 0:=by
          have e:=hz w
          rw[rowj.run_zero] at e
          cases e
          exact rowj.zeroInt hk
         rw[getBang _ (by omega),hz0]
         exact⟨rfl,by cases k<;>rfl⟩) (by simpa using ho))
       have R3:=R2.put (d:=o.dst) (x:= .mu (st.new slot (.ints false k (List.replicate n.toNat 0))).1 0 n.toNat n.toNat 1) (v:= .slice (some ⟨w.heap.size,0,none⟩) n.toNat n.toNat) hd
        (.mu _ _ _ _ _ w.heap.size _ (by simp[setβ]) rfl (Nat.le_refl _) hnm (fun _=>rfl) (fun _=>⟨_,e,hnew,by rw[hAs,hs1];simp⟩))
       exact hn _ _ _ _ R3 (ext_alloc w own _ _ R.plain_lt) (fun i hi b hb=>le_setβ (R.slotNone hs _) i b hb) (size_put a _ _)
      ·cases hmk
       have R2:=R.newB hs (B:= .cells false (rep n.toNat (j.zero.map .d))) (arr:=A) (e:=e) (fun own' β' hβ hsub ho=>
        .cells false _ _ e hnew h0'.1 h0'.2.1 (fun j x hx=>(h0'.2.2 j x hx).mono hsub (wide_alloc w _) hβ) (by simpa using ho))
       have R3:=R2.put (d:=o.dst) (x:= .mu (st.new slot (.cells false (rep n.toNat (j.zero.map .d)))).1 0 n.toNat n.toNat j.size) (v:= .slice (some ⟨w.heap.size,0,none⟩) n.toNat n.toNat) hd
        (.mu _ _ _ _ _ w.heap.size _ (by simp[setβ]) rfl (Nat.le_refl _) hnm (fun _=>rfl) (fun _=>⟨_,e,hnew,by rw[hAs];simp⟩))
       exact hn _ _ _ _ R3 (ext_alloc w own _ _ R.plain_lt) (fun i hi b hb=>le_setβ (R.slotNone hs _) i b hb) (size_put a _ _)
     ·cases hmk
    ·cases hmk
   ·cases h
  ·cases h
 ·cases h
end Go.VM
set_option linter.unusedSimpArgs false
set_option linter.unusedVariables false
namespace Go.VM
open Go
variable {P : Program} {C : Ctx} {st st' : St} {a : Act} {w : World} {own : Own} {β : Nat → Option Nat}
variable {o : Oper} {next : Act → World → Prop} {Q : Exit → Act → World → Prop}
theorem run_append_room' {t u ty e:TypeId} {i:TypeInfo} {d:TypeDesc} (ht:P.underlying t=some (.slice e)) (hu:P.underlying u=some d) (hd:(∃e',d= .slice e')∨d= .string) (hi:P.info? e=some i)
  {base:Option Addr} {sLen sCap n:Nat} {x:Value} {news:List Value} {w' :World} (hn:(Builtin.lenOf x).run P w= .ok n w) (hf:(Builtin.firstCells i.size n x).run P w= .ok news.toArray w)
  (hroom:sLen+n≤sCap) (hst: ∀ad,base=some ad→(storeCells (ad.add (sLen*i.size)) news).run P w= .ok () w') (hb:base=none→w' =w):
  (Builtin.append_ #[t,u] ty #[.slice base sLen sCap,x]).run P w= .ok (.slice base (sLen+n) sCap) w' :=by
 rcases hd with⟨e',rfl⟩|rfl
 ·cases base with
  |none=>rw[hb rfl];simp[Builtin.append_,run_underlying ht,run_underlying hu,sizeOf,typeInfo,hi,hn,hroom,hf]
  |some ad=>
   have:=hst ad rfl
   simp[Builtin.append_,run_underlying ht,run_underlying hu,sizeOf,typeInfo,hi,hn,hroom,hf,this]
 ·cases base with
  |none=>rw[hb rfl];simp[Builtin.append_,run_underlying ht,run_underlying hu,sizeOf,typeInfo,hi,hn,hroom,hf]
  |some ad=>
   have:=hst ad rfl
   simp[Builtin.append_,run_underlying ht,run_underlying hu,sizeOf,typeInfo,hi,hn,hroom,hf,this]
theorem run_append_grow' {t u ty e:TypeId} {i:TypeInfo} {d:TypeDesc} {z:Value} (ht:P.underlying t=some (.slice e)) (hu:P.underlying u=some d) (hd:(∃e',d= .slice e')∨d= .string) (hi:P.info? e=some i) (hz:i.zero=some z)
  {base:Option Addr} {sLen sCap n:Nat} {x:Value} {olds news:List Value} (hn:(Builtin.lenOf x).run P w= .ok n w) (hf:(Builtin.firstCells i.size n x).run P w.drew= .ok news.toArray w.drew)
  (hfo:(Builtin.firstCells i.size sLen (.slice base sLen sCap)).run P w.drew= .ok olds.toArray w.drew)
  (hg:sCap<sLen+n) (h63:((sLen+n:Nat):Int)≤9223372036854775807) (hfit:Builtin.nextslicecap (sLen+n) sCap*i.bytes≤281474976710656):
  (Builtin.append_ #[t,u] ty #[.slice base sLen sCap,x]).run P w=
   .ok (.slice (some ⟨w.heap.size,0,none⟩) (sLen+n) (grownCap w (sLen+n) sCap e))
    (w.drew.alloc (.cells (olds.toArray++news.toArray++Builtin.zeroCells z.cells (grownCap w (sLen+n) sCap e-(sLen+n))) e)):=by
 have hn' : ¬(sLen+n≤sCap):=by omega
 have h63' : ¬(9223372036854775807<((sLen:Int)+(n:Int))):=by omega
 have h48' : ¬(281474976710656<Builtin.nextslicecap (sLen+n) sCap*i.bytes):=by omega
 rcases hd with⟨e',rfl⟩|rfl
 ·simp[Builtin.append_,run_underlying ht,run_underlying hu,sizeOf,typeInfo,zeroValue,hi,hz,hn,hn',h63',h48',Question.forced,hf,hfo,newRow,grownCap]
  congr 2
  apply Array.ext'
  simp[List.append_assoc]
 ·simp[Builtin.append_,run_underlying ht,run_underlying hu,sizeOf,typeInfo,zeroValue,hi,hz,hn,hn',h63',h48',Question.forced,hf,hfo,newRow,grownCap]
  congr 2
  apply Array.ext'
  simp[List.append_assoc]
theorem Rel.tail (R:Rel C st a w own β) {g n0 n1:Nat} {p q:Pl} (ho:own g=some (.pl p,n0)) {arr arr' :Array Value} {e:TypeId} (hh:w.heap[g]? =some (.cells arr e (0,0)))
  (hs:arr'.size=arr.size) (hkeep: ∀j,j<n0→arr'[j]? =arr[j]?) (hle:n0≤n1):
  Rel C (st.disown (Pl.beq p)) a (w.setRow g arr') (own.set g (some (.pl q,n1))) β∧Ext w own (w.setRow g arr') (own.set g (some (.pl q,n1))):=by
 have E:Ext w own (w.setRow g arr') (own.set g (some (.pl q,n1))):=by
  refine⟨rfl,rfl,rfl,by simp,fun c hc h=> ?_,fun c ow n hc h=> ?_,fun c arr1 e1 h=> ?_,fun c n h=> ?_⟩
  ·have:c≠g:=fun e=>by rw[e,ho] at h;cases h
   exact⟨setRow_other w g c arr' this,by simp[Own.set,this,h]⟩
  ·by_cases ec:c=g
   ·subst ec
    rw[ho] at h
    simp only[Option.some.injEq,Prod.mk.injEq] at h
    obtain⟨rfl,rfl⟩:=h
    refine⟨fun j hj=> ?_,fun ow' n' h' => ?_⟩
    ·rw[cell_setRow_same w c j arr arr' e (0,0) hh,hkeep j hj]
     simp[World.cell?,hh]
    ·simp[Own.set] at h';omega
   ·refine⟨fun j _=>cell_of_heap (setRow_other w g c arr' ec) j,fun ow' n' h' => ?_⟩
    simp[Own.set,ec,h] at h';omega
  ·by_cases ec:c=g
   ·subst ec
    rw[hh] at h;cases h
    exact⟨arr',setRow_heap w c arr arr' e (0,0) hh,hs⟩
   ·exact⟨arr1,by rw[setRow_other w g c arr' ec];exact h,rfl⟩
  ·have:c≠g:=fun e=>by rw[e,ho] at h;cases h
   exact⟨setRow_other w g c arr' this,by simp[Own.set,this,h]⟩
 refine⟨?_,E⟩
 have Rd:=R.disown (Pl.beq p)
 have hne: ∀i B b,getB st i=some B→β i=some b→b≠g:=by
  intro i B b h1 h2 e
  subst e
  obtain⟨b',h3,h4⟩:=R.blocks i B h1
  rw[h2] at h3;cases h3
  rcases own_blk h4 with h5|h5<;>rw[ho] at h5<;>simp at h5
 refine⟨Rd.defers,fun t x h=>(Rd.tmps t x h).mono E.sub E.wide (fun _ _ h=>h), ?_,Rd.fresh,Rd.gone, ?_,Rd.ob, ?_,fun gg cs h=>(Rd.glob gg cs h).mono E.sub⟩
 ·intro i B h
  obtain⟨b,h1,h2⟩:=Rd.blocks i B h
  have hbg:=hne i B b h h1
  exact⟨b,h1,h2.mono E.sub E.wide (fun _ _ h=>h) (setRow_other w g b arr' hbg) (by simp[Own.set,hbg])⟩
 ·intro r hr x v hv
  have hrp:r≠p:=fun e=>by
   have:=(hasPl_drop hr).2
   rw[e,show Pl.beq p p=true from Pl.beq_iff.2 rfl] at this;cases this
  have hv' :ValAt (st.disown (Pl.beq p)) a w β r x v:=by
   cases r with
   |t t=>exact hv
   |c t j=>exact hv
   |b i j=>
    obtain⟨fz,cs,b,h1,h2,h3,h4⟩:=hv
    exact⟨fz,cs,b,h1,h2,h3,by rw[←h4];exact(cell_of_heap (setRow_other w g b arr' (hne i _ b h1 h3)) j).symm⟩
  intro sz hsz
  rcases Rd.owns r hr x v hv' sz hsz with h0|⟨c,off,len,cap,h1,h2⟩
  ·exact .inl h0
  ·refine .inr ⟨c,off,len,cap,h1, ?_⟩
   rcases h2 with h2|⟨h2,h3,arr1,e1,h4,h5⟩
   ·exact .inl h2
   ·have hcg:c≠g:=fun e=>by rw[e,ho] at h3;simp at h3;exact hrp h3.1.symm
    exact .inr ⟨h2,by simp[Own.set,hcg,h3],arr1,e1,by rw[setRow_other w g c arr' hcg];exact h4,h5⟩
 ·intro c r h
  by_cases ec:c=g
  ·subst ec;exact⟨arr',e,setRow_heap w c arr arr' e (0,0) hh⟩
  ·simp[Own.set,ec] at h
   obtain⟨arr1,e1,h1⟩:=Rd.plain c r h
   exact⟨arr1,e1,by rw[setRow_other w g c arr' ec];exact h1⟩
theorem append_core (T:TOk P C.tt) (R:Rel C st a w own β) {t u ty e:Nat} {je ti tu:TI} (hti:C.tt t=some ti) (hk:ti.k= .slice e) (hje:C.tt e=some je) (htu:C.tt u=some tu) (hnu:(∃e',tu.k= .slice e')∨tu.k= .str)
  (hpos:0<je.size) {p q:Pl} {bv xv:Value} {base:Option Addr} {len cap n:Nat} {olds news:List Value} (hbv:bv= .slice base len cap) (hlc:len≤cap)
  (hbase:(len=0∧cap=0)∨ ∃b off,base=some ⟨b,off,none⟩∧
   (len=cap∨(off=0∧own b=some (.pl p,len*je.size)∧ ∃arr e',w.heap[b]? =some (.cells arr e' (0,0))∧arr.size=cap*je.size)))
  (hol:olds.length=len*je.size) (hocell: ∀b off,base=some ⟨b,off,none⟩→ ∀j v,olds[j]? =some v→w.cell? ⟨b,off+j,none⟩=some v) (ho1: ∀v∈olds,v.oneCell' =true)
  (hnl:news.length=n*je.size) (hn1: ∀v∈news,v.oneCell' =true)
  (hlen:(Builtin.lenOf xv).run P w= .ok n w) (hf: ∀w',(∀b o,w'.cell? ⟨b,o,none⟩=w.cell? ⟨b,o,none⟩)→(Builtin.firstCells je.size n xv).run P w' = .ok news.toArray w')
  (hby:(len+n)*je.bytes≤room) (hsm:len+n≤room):
  ∃r w' own',(Builtin.append_ #[t,u] ty #[bv,xv]).run P w= .ok r w' ∧Rel C (st.disown (Pl.beq p)) a w' own' β∧Ext w own w' own' ∧
   ((r= .slice base 0 0∧len=0∧cap=0∧n=0)∨ ∃b off cap',r= .slice (some ⟨b,off,none⟩) (len+n) cap' ∧(base≠none∨n≠0)∧len+n≤cap' ∧cap' ≤max maxLen cap∧
    (∀j v,(olds++news)[j]? =some v→Fc w' own' b (off+j) v∨(n=0∧base=some ⟨b,off,none⟩∧w' =w∧own' =own))∧
    (len+n=cap' ∨(off=0∧own' b=some (.pl q,(len+n)*je.size)∧ ∃arr e',w'.heap[b]? =some (.cells arr e' (0,0))∧arr.size=cap' *je.size))):=by
 obtain⟨_,_,_,rt⟩:=T.get hti
 obtain⟨_,du,_,ru⟩:=T.get htu
 obtain⟨_,_,z,re⟩:=T.get hje
 have h1:=rt.slice hk;subst h1
 have hdu:(∃e',du= .slice e')∨du= .string:=by
  rcases hnu with⟨e',hk'⟩|hk'
  ·exact .inl ⟨e',ru.slice hk'⟩
  ·exact .inr (ru.str hk')
 subst hbv
 have hsz:=re.size
 unfold room at hby hsm
 by_cases hroom:len+n≤cap
 ·--there is room,or nothing is to be appended
  rcases hbase with⟨rfl,rfl⟩|⟨b,off,rfl,hown⟩
  ·have hn0:n=0:=by omega
   subst hn0
   have hne:news=[]:=List.eq_nil_of_length_eq_zero (by simpa using hnl)
   subst hne
   have hrun:=run_append_room' (w' :=w) (ty:=ty) rt.und ru.und hdu re.hinfo (base:=base) hlen (by rw[hsz];exact hf w (fun _ _=>rfl)) hroom (fun ad h=>by simp[storeCells]) (fun _=>rfl)
   exact⟨_,w,own,hrun,R.disown _,Ext.refl w own,.inl ⟨rfl,rfl,rfl,rfl⟩⟩
  ·rcases hown with hlc' |⟨rfl,hown,arr,e',hh,hs⟩
   ·have hn0:n=0:=by omega
    subst hn0
    have hne:news=[]:=List.eq_nil_of_length_eq_zero (by simpa using hnl)
    subst hne
    have hrun:=run_append_room' (w' :=w) (ty:=ty) rt.und ru.und hdu re.hinfo (base:=some ⟨b,off,none⟩) hlen (by rw[hsz];exact hf w (fun _ _=>rfl)) hroom (fun ad h=>by simp[storeCells]) (fun h=>by cases h)
    refine⟨_,w,own,hrun,R.disown _,Ext.refl w own,.inr ⟨b,off,cap,rfl,.inl (by simp),by omega,by omega,fun j v hj=> .inr ⟨rfl,rfl,rfl,rfl⟩,.inl (by omega)⟩⟩
   ·let arr' :Array Value:=(splice (len*je.size) news arr.toList).toArray
    have hfit:len*je.size+news.length≤arr.size:=by rw[hnl,hs,←Nat.add_mul];exact Nat.mul_le_mul_right _ hroom
    have hst:=run_storeCells_at P b (len*je.size) e' news 0 arr w hh (by simpa using hfit) hn1
    simp only[Nat.add_zero] at hst
    have harr:(arr.toList.take (len*je.size)++news++arr.toList.drop (len*je.size+news.length)).toArray=arr' :=rfl
    rw[harr] at hst
    have hrun:=run_append_room' (w' :=w.setRow b arr') (ty:=ty) rt.und ru.und hdu re.hinfo (base:=some ⟨b,0,none⟩) hlen (by rw[hsz];exact hf w (fun _ _=>rfl)) hroom
     (fun ad h=>by cases h;rw[hsz,Addr.add_lit,Nat.zero_add];exact hst) (fun h=>by cases h)
    have hs' :arr'.size=arr.size:=by simp only[arr',List.size_toArray];rw[splice_length _ _ _ (by simpa using hfit),Array.length_toList]
    have hget: ∀j,arr'[j]? =if j<len*je.size then arr[j]? else if j<len*je.size+news.length then news[j-len*je.size]? else arr[j]? :=by
     intro j
     have:=splice_get (len*je.size) news arr.toList (by simpa using hfit) j
     simp only[Array.getElem?_toList] at this
     simpa[arr'] using this
    obtain⟨R1,E1⟩:=R.tail (q:=q) (n1:=(len+n)*je.size) hown hh hs' (fun j hj=>by rw[hget,if_pos hj]) (Nat.mul_le_mul_right _ (by omega))
    have hnew:=setRow_heap w b arr arr' e' (0,0) hh
    refine⟨_,_,_,hrun,R1,E1,.inr ⟨b,0,cap,rfl,.inl (by simp),hroom,by omega,fun j v hj=> .inl ?_,.inr ⟨rfl,by simp[Own.set],arr',e',hnew,by rw[hs',hs]⟩⟩⟩
    have hjl:j<(len+n)*je.size:=by
     have:=(List.getElem?_eq_some_iff.1 hj).1
     rw[List.length_append,hol,hnl,←Nat.add_mul] at this;exact this
    rw[Nat.zero_add]
    refine⟨?_,fun ow n' h=>by simp[Own.set] at h;omega, ?_⟩
    ·rw[cell_setRow_same w b j arr arr' e' (0,0) hh,hget]
     rw[List.getElem?_append] at hj
     by_cases hjo:j<len*je.size
     ·rw[if_pos hjo]
      rw[if_pos (by omega)] at hj
      have:=hocell b 0 rfl j v hj
      simpa[World.cell?,hh] using this
     ·rw[if_neg hjo,if_pos (by rw[hnl,←Nat.add_mul];exact hjl)]
      rw[if_neg (by omega),hol] at hj
      exact hj
    ·have hm:=List.mem_of_getElem? hj
     rw[List.mem_append] at hm
     rcases hm with hm|hm
     ·exact ho1 v hm
     ·exact hn1 v hm
 ·--a new block
  have hfo:(Builtin.firstCells je.size len (.slice base len cap)).run P w.drew= .ok olds.toArray w.drew:=by
   rcases hbase with⟨rfl,rfl⟩|⟨b,off,rfl,_⟩
   ·have:olds=[]:=List.eq_nil_of_length_eq_zero (by simpa using hol)
    subst this
    cases base with
    |none=>simp[Builtin.firstCells]
    |some z=>exact run_firstCells_some (P:=P) w.drew je.size 0 z 0 0 [] (by simp) (fun j v hj=>by simp at hj)
   ·exact run_firstCells_some (P:=P) w.drew je.size len ⟨b,off,none⟩ len cap olds hol (fun j v hj=>by rw[Addr.add_lit];exact hocell b off rfl j v hj)
  have hrun:=run_append_grow' (ty:=ty) rt.und ru.und hdu re.hinfo re.zero (base:=base) (sLen:=len) (sCap:=cap) hlen (by rw[hsz];exact hf w.drew (fun _ _=>rfl)) (by rw[hsz];exact hfo) (by omega) (by omega)
   (growslice_fits (by omega) (by rw[re.bytes];exact hby))
  let cap' :=grownCap w (len+n) cap e
  have hge:len+n≤cap' :=grownCap_ge w (len+n) cap e
  have hcm:cap' ≤maxLen:=grownCap_le_maxLen w (len+n) cap e (by unfold maxLen;omega)
  let arr:Array Value:=olds.toArray++news.toArray++Builtin.zeroCells z.cells (cap' -(len+n))
  have hzs:z.cells.size=je.size:=by
   obtain⟨z1,_⟩:=zcells_sound re.zc w own
   simp only[Array.length_toList] at z1
   rw[z1,re.zl]
  have hs:arr.size=cap' *je.size:=by
   simp only[arr,Array.size_append,List.size_toArray,size_zeroCells,hzs,hol,hnl,←Nat.add_mul]
   congr 1;omega
  have R1:=(R.drew.alloc arr e (some (.pl q,(len+n)*je.size))).disown (Pl.beq p)
  have E1:Ext w own (w.drew.alloc (.cells arr e (0,0))) (own.set w.heap.size (some (.pl q,(len+n)*je.size))):=(ext_drew w own).trans (ext_alloc w.drew own _ _ R.drew.plain_lt)
  have hnew:=heap_alloc_new w.drew (.cells arr e (0,0))
  refine⟨_,_,_,hrun,R1,E1,.inr ⟨w.heap.size,0,cap',rfl,.inr (fun h=>by subst h;rcases hbase with⟨rfl,rfl⟩|⟨b,off,hb0,_⟩<;>first|omega|cases hb0),hge,by omega,fun j v hj=> .inl ?_,.inr ⟨rfl,by simp[Own.set],arr,e,hnew,hs⟩⟩⟩
  have hjl:j<(len+n)*je.size:=by
   have:=(List.getElem?_eq_some_iff.1 hj).1
   rw[List.length_append,hol,hnl,←Nat.add_mul] at this;exact this
  rw[Nat.zero_add]
  refine⟨?_,fun ow n' h=>by simp[Own.set] at h;omega, ?_⟩
  ·have e1:arr[j]? =some v:=by
    have:j<(olds++news).length:=by rw[List.length_append,hol,hnl,←Nat.add_mul];exact hjl
    simp only[arr]
    rw[Array.getElem?_append_left (by simpa using this)]
    rw[←hj]
    simp
   simp only[World.cell?,World.size_drew] at hnew⊢
   rw[hnew]
   exact e1
  ·have hm:=List.mem_of_getElem? hj
   rw[List.mem_append] at hm
   rcases hm with hm|hm
   ·exact ho1 v hm
   ·exact hn1 v hm
end Go.VM
set_option linter.unusedSimpArgs false
set_option linter.unusedVariables false
namespace Go.VM
open Go
variable {P : Program} {C : Ctx} {st st' : St} {a : Act} {w : World} {own : Own} {β : Nat → Option Nat}
variable {o : Oper} {next : Act → World → Prop} {Q : Exit → Act → World → Prop}
structure Src (P : Program) (w : World) (sz : Nat) (u : Value) (n : Nat) (news : List Value) : Prop where
 len:(Builtin.lenOf u).run P w= .ok n w
 nl:news.length=n*sz
 one: ∀v∈news,v.oneCell' =true
 first: ∀(m:Nat) w',m≤n→(∀b o,w'.cell? ⟨b,o,none⟩=w.cell? ⟨b,o,none⟩)→(Builtin.firstCells sz m u).run P w' = .ok (news.take (m*sz)).toArray w'
theorem src_slice {sz b off n cap:Nat} {news:List Value} (hl:news.length=n*sz) (h: ∀(j:Nat) (v:Value),news[j]? =some v→w.cell? ⟨b,off+j,none⟩=some v) (h1: ∀v∈news,v.oneCell' =true):
  Src P w sz (.slice (some ⟨b,off,none⟩) n cap) n news:=by
 refine⟨rfl,hl,h1,fun m w' hm hw=> ?_⟩
 have hle:m*sz≤n*sz:=Nat.mul_le_mul_right _ hm
 refine run_firstCells_some w' sz m ⟨b,off,none⟩ n cap (news.take (m*sz)) (by simp;omega) (fun j v hj=> ?_)
 rw[List.getElem?_take] at hj
 split at hj
 ·rw[Addr.add_lit,hw];exact h j v hj
 ·cases hj
theorem src_nil {sz:Nat}:Src P w sz (.slice none 0 0) 0 []:=⟨rfl,by simp,by simp,fun m w' _ _=>by simp[Builtin.firstCells]⟩
theorem src_none {sz:Nat} (ad:Addr) (cap:Nat):Src P w sz (.slice (some ad) 0 cap) 0 []:=by
 refine⟨rfl,by simp,by simp,fun m w' hm _=> ?_⟩
 have:m=0:=by omega
 subst this
 simpa using run_firstCells_some (P:=P) w' sz 0 ad 0 cap [] (by simp) (fun j v hj=>by simp at hj)
theorem src_nums (R:Rel C st a w own β) {k:IntKind} {s:V} {u:Value} {ys:List Int} (hu:RepV w own β u s) (h:srcNums st k s=some ys):
  Src P w 1 u ys.length (ys.map (.int k))∧(∀y∈ys,k.wrap y=y)∧ys.length≤maxLen:=by
 unfold srcNums at h
 split at h
 ·rename_i k' nl xs
  cases hk:k==k' with
  |false=>rw[hk] at h;cases h
  |true=>
   rw[hk] at h;cases h
   have:=eq_of_beq hk
   subst this
   have hpd:=inv_d hu
   cases hpd with
   |numsNil=>exact⟨src_nil,by simp,by simp⟩
   |numsE _ ad cap hm=>exact⟨src_none ad cap,by simp,by simp⟩
   |nums _ b off len cap _ hl hc hm hf hw=>
    subst hl
    refine⟨src_slice (by simp) (fun j v hj=> ?_) (fun v hv=> ?_),fun y hy=> ?_,by omega⟩
    ·simp only[List.getElem?_map,Option.map_eq_some_iff] at hj
     obtain⟨x,hx,rfl⟩:=hj
     exact(hf j x hx).cell
    ·rw[List.mem_map] at hv
     obtain⟨x,_,rfl⟩:=hv;rfl
    ·obtain⟨j,hj,rfl⟩:=List.mem_iff_getElem.1 hy
     exact hw j _ (by simp[hj])
 ·rename_i l
  cases hk:k== .u8 with
  |false=>rw[hk] at h;cases h
  |true=>
   rw[hk] at h;cases h
   have:=eq_of_beq hk
   subst this
   obtain⟨s',rfl,rfl,hsm⟩:=inv_str hu
   have e1:(bytesI s').length=s'.size:=by simp[bytesI]
   refine⟨⟨by rw[e1];rfl,by simp,fun v hv=> ?_,fun m w' hm hw=> ?_⟩,fun y hy=> ?_,hsm⟩
   ·rw[List.mem_map] at hv
    obtain⟨x,_,rfl⟩:=hv;rfl
   ·simp only[Builtin.firstCells,Sem.run_pure]
    congr 1
    apply Array.ext'
    simp[bytesI,ByteArray.data_extract,List.extract_eq_take_drop]
    rfl
   ·simp only[bytesI,List.mem_map] at hy
    obtain⟨b,_,rfl⟩:=hy
    have:=b.toNat_lt
    rw[wrap_iff];simp[IntKind.min,IntKind.max,IntKind.signed,IntKind.bits];omega
 ·rename_i i off len cap sz
  split at h
  ·rename_i k' xs hB
   cases hk:k==k' && Nat.beq sz 1 with
   |false=>rw[hk] at h;cases h
   |true=>
    rw[hk] at h;cases h
    rw[Bool.and_eq_true] at hk
    have:=eq_of_beq hk.1
    subst this
    have:=Nat.eq_of_beq_eq_true hk.2
    subst this
    cases hu with|mu _ _ _ _ _ pb ad hb hsp hc hm ha hbb=>
    obtain⟨b',h1,h2⟩:=R.blocks _ _ hB
    rw[hb] at h1;cases h1
    cases h2 with|ints _ _ _ arr e' hh hs hr ho=>
    have had:ad=⟨ad.block,ad.off,none⟩:=by cases ad;simp at hsp;simp[hsp]
    by_cases h0:cap=0
    ·have:len=0:=by omega
     subst this
     rw[had]
     simp only[List.take_zero,List.map_nil,List.length_nil]
     exact⟨src_slice (by simp) (fun j v hj=>by simp at hj) (by simp),by simp,by simp⟩
    ·obtain⟨arr',e'',h3,h4⟩:=hbb h0
     rw[hh] at h3;cases h3
     rw[ha h0]
     have hl:((xs.drop off).take len).length=len:=by simp;omega
     have hget: ∀(i:Nat) (x:Int),((xs.drop off).take len)[i]? =some x→xs[off+i]? =some x∧i<len:=by
      intro i x hx
      rw[List.getElem?_take] at hx
      split at hx
      ·rename_i hi;rw[List.getElem?_drop] at hx;exact⟨hx,hi⟩
      ·cases hx
     rw[hl]
     refine⟨src_slice (by simp;omega) (fun j v hj=> ?_) (fun v hv=> ?_),fun y hy=> ?_,by omega⟩
     ·simp only[List.getElem?_map,Option.map_eq_some_iff] at hj
      obtain⟨x,hx,rfl⟩:=hj
      obtain⟨h5,h6⟩:=hget j x hx
      have:=cell_of_block hh (show off+j<arr.size by omega)
      rw[(hr _ x h5).1] at this;exact this
     ·rw[List.mem_map] at hv
      obtain⟨x,_,rfl⟩:=hv;rfl
     ·obtain⟨j,hj,rfl⟩:=List.mem_iff_getElem.1 hy
      exact(hr _ _ (hget j _ (List.getElem?_eq_getElem hj)).1).2
  ·cases h
 ·cases h
theorem flat_get {α:Type} {sz:Nat}: ∀ {xs:List (List α)},(∀c∈xs,c.length=sz)→ ∀ {i r:Nat} {c:List α},xs[i]? =some c→r<sz→xs.flatten[i*sz+r]? =c[r]?
 |[],_,i,r,c,h,_=>by simp at h
 |x::xs,hs,0,r,c,h,hr=>by
  simp at h;subst h
  have:=hs x (by simp)
  simp only[Nat.zero_mul,Nat.zero_add,List.flatten_cons]
  rw[List.getElem?_append_left (by omega)]
 |x::xs,hs,i+1,r,c,h,hr=>by
  have hx:=hs x (by simp)
  have ih:=flat_get (xs:=xs) (fun c hc=>hs c (by simp[hc])) (i:=i) (r:=r) (c:=c) (by simpa using h) hr
  rw[List.flatten_cons,List.getElem?_append_right (by rw[hx,Nat.succ_mul];omega),←ih]
  congr 1
  rw[hx,Nat.succ_mul];omega
theorem flat_length {α:Type} {sz:Nat}: ∀ {xs:List (List α)},(∀c∈xs,c.length=sz)→xs.flatten.length=xs.length*sz
 |[],_=>by simp
 |x::xs,h=>by
  rw[List.flatten_cons,List.length_append,h x (by simp),flat_length (fun c hc=>h c (by simp[hc])),List.length_cons,Nat.succ_mul];omega
theorem flat_at {α:Type} {sz:Nat} {xs:List (List α)} (hs: ∀c∈xs,c.length=sz) {j:Nat} {x:α} (h:xs.flatten[j]? =some x):
  ∃i r c,j=i*sz+r∧r<sz∧xs[i]? =some c∧c[r]? =some x:=by
 have hl:=flat_length hs
 have hj:=(List.getElem?_eq_some_iff.1 h).1
 rw[hl] at hj
 have hpos:0<sz:=by
  rcases Nat.eq_zero_or_pos sz with e|e
  ·subst e;omega
  ·exact e
 have hi:j/sz<xs.length:=Nat.div_lt_of_lt_mul (by rw[Nat.mul_comm];exact hj)
 have hr:j % sz<sz:=Nat.mod_lt _ hpos
 have e:j=(j/sz)*sz+j % sz:=by rw[Nat.mul_comm];exact(Nat.div_add_mod j sz).symm
 have hx:xs[j/sz]? =some xs[j/sz]:=by simp[hi]
 refine⟨j/sz,j % sz,xs[j/sz],e,hr,hx, ?_⟩
 rw[←flat_get hs hx hr,←e];exact h
theorem rep_cells_sl {sz b off:Nat} {xs:List (List D)} (hs: ∀(i:Nat) (c:List D),xs[i]? =some c→c.length=sz) {val:Nat→Nat→Value}
  (h: ∀(i r:Nat) (c:List D) (x:D),xs[i]? =some c→c[r]? =some x→Fc w own b (off+i*sz+r) (val i r)∧RepD w own (val i r) x):
  ∃vs:List Value,vs.length=xs.length*sz∧(∀v∈vs,v.oneCell' =true)∧ ∀j v,vs[j]? =some v→w.cell? ⟨b,off+j,none⟩=some v∧okc own b (off+j)∧ ∃x,xs.flatten[j]? =some x∧RepD w own v x:=by
 have hs' : ∀c∈xs,c.length=sz:=fun c hc=>by
  obtain⟨i,hi,rfl⟩:=List.mem_iff_getElem.1 hc
  exact hs i _ (by simp[hi])
 have key: ∀j,j<xs.length*sz→ ∃v x,xs.flatten[j]? =some x∧Fc w own b (off+j) v∧RepD w own v x:=by
  intro j hj
  have hlt:j<xs.flatten.length:=by rw[flat_length hs'];exact hj
  obtain⟨i,r,c,e,hr,h1,h2⟩:=flat_at hs' (show xs.flatten[j]? =some xs.flatten[j] by simp[hlt])
  obtain⟨h3,h4⟩:=h i r c _ h1 h2
  rw[Nat.add_assoc,←e] at h3
  exact⟨_,_,by simp[hlt],h3,h4⟩
 refine⟨(List.range (xs.length*sz)).map (fun j=>if hj:j<xs.length*sz then(key j hj).choose else undef),by simp,fun v hv=> ?_,fun j v hj=> ?_⟩
 ·simp only[List.mem_map,List.mem_range] at hv
  obtain⟨j,hj,rfl⟩:=hv
  rw[dif_pos hj]
  exact(key j hj).choose_spec.choose_spec.2.1.one
 ·simp only[List.getElem?_map,Option.map_eq_some_iff] at hj
  obtain⟨j',h1,rfl⟩:=hj
  have hlt:j<xs.length*sz:=by
   have:=(List.getElem?_eq_some_iff.1 h1).1
   simpa using this
  have e:j' =j:=by
   rw[List.getElem?_range hlt] at h1
   exact(Option.some.inj h1).symm
  subst e
  rw[dif_pos hlt]
  obtain⟨x,g1,g2,g3⟩:=(key j' hlt).choose_spec
  exact⟨g2.cell,g2.ok,x,g1,g3⟩
theorem chunk_flatten {α:Type} (sz:Nat): ∀(n:Nat) (l:List α),l.length=n*sz→(chunk sz n l).flatten=l
 |0,l,h=>by
  have:l=[]:=List.eq_nil_of_length_eq_zero (by simpa using h)
  subst this;rfl
 |n+1,l,h=>by
  simp only[chunk,List.flatten_cons]
  rw[chunk_flatten sz n (l.drop sz) (by simp;rw[h,Nat.succ_mul];omega),List.take_append_drop]
theorem src_sl (R:Rel C st a w own β) {sz:Nat} {s:V} {u:Value} {ys:List (List D)} (hu:RepV w own β u s) (h:srcSl st sz s=some ys):
  (∀c∈ys,c.length=sz)∧ys.length≤maxLen∧ ∃news:List Value,Src P w sz u ys.length news∧ ∀(j:Nat) (v:Value),news[j]? =some v→ ∃x,ys.flatten[j]? =some x∧RepD w own v x:=by
 unfold srcSl at h
 split at h
 ·rename_i sz' nl xs
  cases hk:Nat.beq sz sz' with
  |false=>rw[hk] at h;cases h
  |true=>
   rw[hk] at h;cases h
   have:=Nat.eq_of_beq_eq_true hk
   subst this
   have hpd:=inv_d hu
   cases hpd with
   |slNil=>exact⟨by simp,by simp,[],src_nil,by simp⟩
   |slE _ ad cap hm=>exact⟨by simp,by simp,[],src_none ad cap,by simp⟩
   |sl _ b off len cap _ val hl hc hm hs hf hr=>
    subst hl
    obtain⟨vs,v1,v2,v3⟩:=rep_cells_sl hs (fun i r c x h1 h2=>⟨hf i r c x h1 h2,hr i r c x h1 h2⟩)
    refine⟨fun c hc=> ?_,by omega,vs,src_slice v1 (fun j v hj=>(v3 j v hj).1) v2,fun j v hj=>(v3 j v hj).2.2⟩
    obtain⟨i,hi,rfl⟩:=List.mem_iff_getElem.1 hc
    exact hs i _ (by simp[hi])
 ·rename_i i off len cap sz'
  split at h
  ·rename_i fz cs hB
   cases hk:Nat.beq sz sz' with
   |false=>rw[hk] at h;cases h
   |true=>
    rw[hk] at h
    simp only[cond_true] at h
    have:=Nat.eq_of_beq_eq_true hk
    subst this
    split at h
    ·rename_i ds hds
     cases h
     cases hu with|mu _ _ _ _ _ pb ad hb hsp hc hm ha hbb=>
     obtain⟨b',h1,h2⟩:=R.blocks _ _ hB
     rw[hb] at h1;cases h1
     cases h2 with|cells _ _ arr e' hh hs h1 hr ho=>
     have had:ad=⟨ad.block,ad.off,none⟩:=by cases ad;simp at hsp;simp[hsp]
     have hds' :=allD_some hds
     by_cases h0:cap=0
     ·have:len=0:=by omega
      subst this
      rw[had]
      simp only[chunk,List.length_nil]
      exact⟨by simp,by simp,[],src_slice (by simp) (fun j v hj=>by simp at hj) (by simp),by simp⟩
     ·obtain⟨arr',e'',h3,h4⟩:=hbb h0
      rw[hh] at h3;cases h3
      rw[ha h0]
      have hle:len*sz≤cap*sz:=Nat.mul_le_mul_right _ hc
      have hdl:ds.length=len*sz:=by
       have:(ds.map V.d).length=((cs.drop off).take (len*sz)).length:=by rw[hds']
       simp at this;omega
      have hcl:(chunk sz len ds).length=len:=chunk_length _ _ _
      have hcs: ∀c∈chunk sz len ds,c.length=sz:=by
       intro c hc'
       obtain⟨i,hi,rfl⟩:=List.mem_iff_getElem.1 hc'
       obtain⟨g1,g2⟩:=chunk_get sz len ds i _ (List.getElem?_eq_getElem hi)
       have:(i+1)*sz≤len*sz:=Nat.mul_le_mul_right _ g1
       rw[Nat.succ_mul] at this
       rw[g2];simp;omega
      refine⟨hcs,by omega,(List.range (len*sz)).map (fun j=>arr.getD (off+j) undef), ?_,fun j v hj=> ?_⟩
      ·rw[hcl]
       refine src_slice (by simp) (fun j v hj=> ?_) (fun v hv=> ?_)
       ·simp only[List.getElem?_map,Option.map_eq_some_iff] at hj
        obtain⟨j',g1,rfl⟩:=hj
        have hlt:=(List.getElem?_eq_some_iff.1 g1).1
        simp at hlt
        rw[List.getElem?_range hlt] at g1
        cases g1
        exact cell_of_block hh (by omega)
       ·simp only[List.mem_map,List.mem_range] at hv
        obtain⟨j,hj,rfl⟩:=hv
        exact h1 _ (by omega)
      ·simp only[List.getElem?_map,Option.map_eq_some_iff] at hj
       obtain⟨j',g1,rfl⟩:=hj
       have hlt:=(List.getElem?_eq_some_iff.1 g1).1
       simp at hlt
       rw[List.getElem?_range hlt] at g1
       cases g1
       rw[chunk_flatten sz len ds hdl]
       have hjd:j<ds.length:=by omega
       refine⟨ds[j],by simp[hjd], ?_⟩
       have:((cs.drop off).take (len*sz))[j]? =some (.d ds[j]):=by rw[hds'];simp[hjd]
       rw[List.getElem?_take,if_pos hlt,List.getElem?_drop] at this
       exact inv_d (hr _ _ this)
    ·cases h
  ·cases h
 ·cases h
theorem next_append {w' :World} {own' :Own} (R1:Rel C st a w' own' β) (hd: ∀t,o.dst=some t→t<a.tmps.size) {r:Value} {x:V} (hv:RepV w' own' β r x)
  (ho: ∀d,o.dst=some d→OwnsAt w' own' (.t d) r x) (hn:Next C st w' own' β a.tmps.size ((st.put o.dst x).own o.dst true) next):next (a.put o.dst r) w' :=by
 have R2:=R1.put (d:=o.dst) hd hv
 generalize o.dst=dst at*
 cases dst with
 |none=>exact hn _ _ _ _ R2 (Ext.refl _ _) (fun _ _ _ h=>h) rfl
 |some d=>
  refine hn _ _ _ _ (R2.ownTmp (t:=d) (fun y hy=> ?_)) (Ext.refl _ _) (fun _ _ _ h=>h) (size_put a _ _)
  simp only[St.put,look_ins_same,Option.some.injEq] at hy
  subst hy
  rw[tmps_put_some,getD_set_same _ _ _ (hd d rfl)]
  exact ho d rfl
theorem append_main (T:TOk P C.tt) (R:Rel C st a w own β) {x y:Operand} {t u:Nat} {b s:V} {ow:Bool} {r:D} {p:Pl} (hop:o.op= .call {callee:= .builtin .append,args:= #[x,y],argTypes:= #[t,u] })
  (hd: ∀t,o.dst=some t→t<a.tmps.size) (hbr:RepV w own β (a.eval x) b) (hsr:RepV w own β (a.eval y) s) (hsrc:isSrc C u=true) (hown:ow=true→OwnsAt w own p (a.eval x) b)
  (hr:evAppend C st t ow b s=some r) (hn:Next C st w own β a.tmps.size (((st.disown (Pl.beq p)).put o.dst (.d r)).own o.dst true) next):o.wp P a w next Q:=by
 have hu: ∃tu,C.tt u=some tu∧((∃e',tu.k= .slice e')∨tu.k= .str):=by
  unfold isSrc at hsrc
  split at hsrc
  ·rename_i h0;exact⟨_,h0,.inl ⟨_,rfl⟩⟩
  ·rename_i h0;exact⟨_,h0,.inr rfl⟩
  ·cases hsrc
 obtain⟨tu,htu,hnu⟩:=hu
 unfold evAppend at hr
 split at hr
 ·rename_i e _ _ _ _ _ hti
  split at hr
  ·rename_i je hje
   have fin: ∀ {base:Option Addr} {len cap n:Nat} {olds news:List Value},0<je.size→a.eval x= .slice base len cap→len≤cap→cap≤maxLen→
     ((len=0∧cap=0)∨ ∃b off,base=some ⟨b,off,none⟩∧(len=cap∨(off=0∧own b=some (.pl p,len*je.size)∧ ∃arr e',w.heap[b]? =some (.cells arr e' (0,0))∧arr.size=cap*je.size)))→
     olds.length=len*je.size→(∀b off,base=some ⟨b,off,none⟩→ ∀j v,olds[j]? =some v→Fc w own b (off+j) v)→(∀v∈olds,v.oneCell' =true)→
     Src P w je.size (a.eval y) n news→(len+n)*je.bytes≤room→len+n≤room→szOf (.d r)=some je.size→
     (len=0→cap=0→n=0→ ∀w' own',RepD w' own' (.slice base 0 0) r)→
     (∀w' own' b off cap',Sub w own w' own' →(base≠none∨n≠0)→len+n≤cap' →cap' ≤maxLen→(∀j v,(olds++news)[j]? =some v→Fc w' own' b (off+j) v)→RepD w' own' (.slice (some ⟨b,off,none⟩) (len+n) cap') r)→
     o.wp P a w next Q:=by
    intro base len cap n olds news hpos hbv hlc hcm hbase hol hoc ho1 hsrc' hby hsm hsz hnilr hrep
    obtain⟨rv,w',own',hrun,R1,E1,hres⟩:=append_core (ty:=o.type) (q:= .t (o.dst.getD 0)) T R hti rfl hje htu hnu hpos hbv hlc hbase hol (fun b off hb' j v hj=>(hoc b off hb' j v hj).cell) ho1 hsrc'.nl hsrc'.one hsrc'.len
     (fun w' hw=>by have:=hsrc'.first n w' (Nat.le_refl _) hw;rw[List.take_of_length_le (by rw[hsrc'.nl];exact Nat.le_refl _)] at this;exact this) hby hsm
    have hr' :(execOp a.eval o).run P w= .ok (.value rv) w' :=by
     simp only[execOp,hop,resolve,Sem.run_bind,invoke,builtin]
     simp[hrun]
    refine wp_value hr' ?_
    have hn' :Next C (st.disown (Pl.beq p)) w' own' β a.tmps.size (((st.disown (Pl.beq p)).put o.dst (.d r)).own o.dst true) next:=Next.of E1 (Nat.le_refl _) (fun _ _ _ h=>h) hn
    rcases hres with⟨rfl,h0,h1,h2⟩|⟨b,off,cap',rfl,h1,h2,h3,h4,h5⟩
    ·refine next_append R1 hd (.d _ _ (hnilr h0 h1 h2 _ _)) (fun d hdd sz _=> .inl (empty0 _)) hn'
    ·have hcells: ∀j v,(olds++news)[j]? =some v→Fc w' own' b (off+j) v:=by
      intro j v hj
      rcases h4 j v hj with h6|⟨rfl,h7,rfl,rfl⟩
      ·exact h6
      ·have hne:news=[]:=List.eq_nil_of_length_eq_zero (by rw[hsrc'.nl];simp)
       subst hne
       rw[List.append_nil] at hj
       exact hoc b off h7 j v hj
     refine next_append R1 hd (.d _ _ (hrep w' own' b off cap' E1.sub h1 h2 (by omega) hcells)) (fun d hdd sz hsz' => .inr ⟨b,off,_,_,rfl, ?_⟩) hn'
     rw[hsz] at hsz'
     cases hsz'
     rcases h5 with h6|⟨h6,h7,h8⟩
     ·exact .inl h6
     ·refine .inr ⟨h6, ?_,h8⟩
      rw[h7,hdd];rfl
   split at hr
   ·rename_i k nl xs
    cases hck:(ow||nl) && Nat.beq je.size 1 with
    |false=>rw[hck] at hr;cases hr
    |true=>
     rw[hck] at hr
     simp only[cond_true] at hr
     rw[Bool.and_eq_true,Bool.or_eq_true] at hck
     have hs1:=Nat.eq_of_beq_eq_true hck.2
     split at hr
     ·rename_i ys hys
      obtain⟨hsrcn,hyw,hym⟩:=src_nums (P:=P) R hsr hys
      cases hck2:decide ((xs.length+ys.length)*je.bytes≤room) && decide (xs.length+ys.length≤room) with
      |false=>rw[hck2] at hr;cases hr
      |true=>
       rw[hck2] at hr
       simp only[cond_true,Option.some.injEq] at hr
       simp only[Bool.and_eq_true,decide_eq_true_eq] at hck2
       subst hr
       have hbd:=inv_d hbr
       have hown' :=hown
       generalize hbe:a.eval x=bv at hbd hown'
       have repr: ∀(w' :World) (own' :Own) (b off cap' :Nat),(nl && ys.isEmpty)=false→xs.length+ys.length≤cap' →cap' ≤maxLen→(∀(i:Nat) (z:Int),xs[i]? =some z→k.wrap z=z)→
         (∀j v,(xs.map (Value.int k)++ys.map (Value.int k))[j]? =some v→Fc w' own' b (off+j) v)→RepD w' own' (.slice (some ⟨b,off,none⟩) (xs.length+ys.length) cap') (.nums k (nl && ys.isEmpty) (xs++ys)):=by
        intro w' own' b off cap' hnl h2 h3 hxw h4
        rw[hnl]
        refine .nums k b off _ cap' _ (by simp) h2 h3 (fun i z hz=>h4 i _ ?_) (fun i z hz=> ?_)
        ·rw[←List.map_append,List.getElem?_map,hz];rfl
        ·rw[List.getElem?_append] at hz
         split at hz
         ·exact hxw i z hz
         ·exact hyw z (List.mem_of_getElem? hz)
       cases hbd with
       |numsNil=>
        refine fin (base:=none) (len:=0) (cap:=0) (olds:=[]) (by omega) hbe (by omega) (by omega) (.inl ⟨rfl,rfl⟩) (by simp) (fun b off hb' =>by cases hb') (by simp) (by rw[hs1];exact hsrcn) (by simpa using hck2.1) (by simpa using hck2.2)
         (by rw[hs1];rfl) (fun _ _ h0 w' own' => ?_) (fun w' own' b off cap' hsub h1 h2 h3 h4=> ?_)
        ·have:ys=[]:=List.eq_nil_of_length_eq_zero h0
         subst this
         exact .numsNil k
        ·have hne:ys.isEmpty=false:=by
          cases ys with
          |nil=>rcases h1 with h1|h1<;>simp at h1
          |cons=>rfl
         have:=repr w' own' b off cap' (by simp[hne]) (by simpa using h2) h3 (fun i z hz=>by simp at hz) (by simpa using h4)
         simpa using this
       |nums _ b0 off0 len cap _ hl hc hm hf hw=>
        subst hl
        have hnlf:ow=true:=by
         rcases hck.1 with h|h
         ·exact h
         ·cases h
        have hbase:(xs.length=0∧cap=0)∨ ∃b off,(some (⟨b0,off0,none⟩:Addr))=some ⟨b,off,none⟩∧(xs.length=cap∨(off=0∧own b=some (.pl p,xs.length*je.size)∧ ∃arr e',w.heap[b]? =some (.cells arr e' (0,0))∧arr.size=cap*je.size)):=by
         rcases hown' hnlf 1 rfl with h|⟨b1,o1,l1,c1,h1,h2⟩
         ·rcases h with h|⟨z,h⟩
          ·cases h
          ·injection h with h1 h2 h3;exact .inl ⟨h2,h3⟩
         ·simp only[Value.slice.injEq,Option.some.injEq] at h1
          obtain⟨h0,rfl,rfl⟩:=h1
          rw[hs1];exact .inr ⟨b1,o1,by rw[h0],h2⟩
        refine fin (base:=some ⟨b0,off0,none⟩) (len:=xs.length) (cap:=cap) (olds:=xs.map (Value.int k)) (by omega) hbe hc hm hbase (by simp[hs1]) (fun b off hb' j v hj=> ?_) (fun v hv=> ?_) (by rw[hs1];exact hsrcn) hck2.1 hck2.2
         (by rw[hs1];rfl) (fun l0 _ n0 w' own' => ?_) (fun w' own' b off cap' hsub h1 h2 h3 h4=>repr w' own' b off cap' rfl h2 h3 hw h4)
        ·cases hb'
         simp only[List.getElem?_map,Option.map_eq_some_iff] at hj
         obtain⟨z,hz,rfl⟩:=hj
         exact hf j z hz
        ·rw[List.mem_map] at hv
         obtain⟨z,_,rfl⟩:=hv;rfl
        ·have e1:xs=[]:=List.eq_nil_of_length_eq_zero l0
         have e2:ys=[]:=List.eq_nil_of_length_eq_zero n0
         subst e1 e2
         exact .numsE k _ 0 (by omega)
       |numsE _ ad cap hm=>
        have hnlf:ow=true:=by
         rcases hck.1 with h|h
         ·exact h
         ·cases h
        have hbase:(0=0∧cap=0)∨ ∃b off,(some (ad:Addr))=some ⟨b,off,none⟩∧(0=cap∨(off=0∧own b=some (.pl p,0*je.size)∧ ∃arr e',w.heap[b]? =some (.cells arr e' (0,0))∧arr.size=cap*je.size)):=by
         rcases hown' hnlf 1 rfl with h|⟨b1,o1,l1,c1,h1,h2⟩
         ·rcases h with h|⟨z,h⟩
          ·cases h
          ·injection h with h1 h2 h3;exact .inl ⟨h2,h3⟩
         ·simp only[Value.slice.injEq,Option.some.injEq] at h1
          obtain⟨h0,rfl,rfl⟩:=h1
          rw[hs1];exact .inr ⟨b1,o1,by rw[h0],h2⟩
        refine fin (base:=some ad) (len:=0) (cap:=cap) (olds:=[]) (by omega) hbe (by omega) hm hbase (by simp) (fun b off hb' j v hj=>by simp at hj) (by simp) (by rw[hs1];exact hsrcn) (by simpa using hck2.1) (by simpa using hck2.2)
         (by rw[hs1];rfl) (fun _ _ n0 w' own' => ?_) (fun w' own' b off cap' hsub h1 h2 h3 h4=> ?_)
        ·have e2:ys=[]:=List.eq_nil_of_length_eq_zero n0
         subst e2
         exact .numsE k _ 0 (by omega)
        ·have:=repr w' own' b off cap' rfl (by simpa using h2) h3 (fun i z hz=>by simp at hz) (by simpa using h4)
         simpa using this
     ·cases hr
   ·rename_i sz nl xs
    cases hck:(ow||nl) && Nat.beq je.size sz && Nat.blt 0 sz with
    |false=>rw[hck] at hr;cases hr
    |true=>
     rw[hck] at hr
     simp only[cond_true] at hr
     rw[Bool.and_eq_true,Bool.and_eq_true,Bool.or_eq_true] at hck
     have hs1:=Nat.eq_of_beq_eq_true hck.1.2
     have hpos:0<sz:=by simpa[Nat.blt_eq] using hck.2
     split at hr
     ·rename_i ys hys
      obtain⟨hysz,hym,news,hsrcn,hnr⟩:=src_sl (P:=P) R hsr hys
      cases hck2:decide ((xs.length+ys.length)*je.bytes≤room) && decide (xs.length+ys.length≤room) with
      |false=>rw[hck2] at hr;cases hr
      |true=>
       rw[hck2] at hr
       simp only[cond_true,Option.some.injEq] at hr
       simp only[Bool.and_eq_true,decide_eq_true_eq] at hck2
       subst hr
       have hbd:=inv_d hbr
       have hown' :=hown
       generalize hbe:a.eval x=bv at hbd hown'
       have repr: ∀(w' :World) (own' :Own) (b off cap' :Nat) (olds:List Value),Sub w own w' own' →(nl && ys.isEmpty)=false→xs.length+ys.length≤cap' →cap' ≤maxLen→(∀c∈xs,c.length=sz)→
         olds.length=xs.length*sz→(∀(j:Nat) (v:Value),olds[j]? =some v→ ∃z,xs.flatten[j]? =some z∧RepD w own v z)→
         (∀j v,(olds++news)[j]? =some v→Fc w' own' b (off+j) v)→RepD w' own' (.slice (some ⟨b,off,none⟩) (xs.length+ys.length) cap') (.sl sz (nl && ys.isEmpty) (xs++ys)):=by
        intro w' own' b off cap' olds hsub hnl h2 h3 hxsz hol hor h4
        rw[hnl]
        have hall: ∀c∈xs++ys,c.length=sz:=fun c hc=>by
         rw[List.mem_append] at hc
         rcases hc with hc|hc
         ·exact hxsz c hc
         ·exact hysz c hc
        have hfl:(xs++ys).flatten=xs.flatten++ys.flatten:=List.flatten_append
        have hxl:=flat_length hxsz
        have hyl:=flat_length hysz
        have hnl' :=hsrcn.nl
        have hat: ∀(i r:Nat) (c:List D) (z:D),(xs++ys)[i]? =some c→c[r]? =some z→ ∃v,(olds++news)[i*sz+r]? =some v∧RepD w own v z:=by
         intro i r c z hi hc
         have hr:r<sz:=by
          have:=(List.getElem?_eq_some_iff.1 hc).1
          rw[hall c (List.mem_of_getElem? hi)] at this;exact this
         have hz:=flat_get hall hi hr
         rw[hc,hfl,List.getElem?_append] at hz
         have hlt:i*sz+r<(xs++ys).length*sz:=by
          have:=(List.getElem?_eq_some_iff.1 hi).1
          have h5:(i+1)*sz≤(xs++ys).length*sz:=Nat.mul_le_mul_right _ this
          rw[Nat.succ_mul] at h5;omega
         rw[List.length_append,Nat.add_mul] at hlt
         rw[List.getElem?_append]
         by_cases hj:i*sz+r<olds.length
         ·rw[if_pos hj]
          rw[if_pos (by rw[hxl,←hol];exact hj)] at hz
          obtain⟨z',g1,g2⟩:=hor _ _ (List.getElem?_eq_getElem hj)
          rw[hz] at g1;cases g1
          exact⟨_,List.getElem?_eq_getElem hj,g2⟩
         ·rw[if_neg hj]
          rw[if_neg (by rw[hxl,←hol];exact hj)] at hz
          have hj2:i*sz+r-olds.length<news.length:=by rw[hnl',hol];omega
          obtain⟨z',g1,g2⟩:=hnr _ _ (List.getElem?_eq_getElem hj2)
          rw[hxl,←hol] at hz
          rw[hz] at g1;cases g1
          exact⟨_,List.getElem?_eq_getElem hj2,g2⟩
        refine .sl sz b off _ cap' _ (fun i r=>(olds++news).getD (i*sz+r) undef) (by simp) h2 h3 (fun i c hi=>hall c (List.mem_of_getElem? hi)) (fun i r c z hi hc=> ?_) (fun i r c z hi hc=> ?_)
        ·obtain⟨v,g1,_⟩:=hat i r c z hi hc
         rw[List.getD_eq_getElem?_getD,g1,Nat.add_assoc]
         exact h4 _ _ g1
        ·obtain⟨v,g1,g2⟩:=hat i r c z hi hc
         rw[List.getD_eq_getElem?_getD,g1]
         exact g2.mono hsub
       cases hbd with
       |slNil=>
        refine fin (base:=none) (len:=0) (cap:=0) (olds:=[]) (by omega) hbe (by omega) (by omega) (.inl ⟨rfl,rfl⟩) (by simp) (fun b off hb' =>by cases hb') (by simp) (by rw[hs1];exact hsrcn) (by simpa using hck2.1) (by simpa using hck2.2)
         (by rw[hs1];rfl) (fun _ _ h0 w' own' => ?_) (fun w' own' b off cap' hsub h1 h2 h3 h4=> ?_)
        ·have:ys=[]:=List.eq_nil_of_length_eq_zero h0
         subst this
         exact .slNil sz
        ·have hne:ys.isEmpty=false:=by
          cases ys with
          |nil=>exact absurd h1 (by simp)
          |cons=>rfl
         have:=repr w' own' b off cap' [] hsub (by simp[hne]) (by simpa using h2) h3 (fun c hc=>by simp at hc) (by simp) (fun j v hj=>by simp at hj) (by simpa using h4)
         simpa using this
       |sl _ b0 off0 len cap _ val hl hc hm hsz' hf hrr=>
        subst hl
        have hnlf:ow=true:=by
         rcases hck.1.1 with h|h
         ·exact h
         ·cases h
        obtain⟨vs,v1,v2,v3⟩:=rep_cells_sl hsz' (fun i r c x h1 h2=>⟨hf i r c x h1 h2,hrr i r c x h1 h2⟩)
        have hxsz: ∀c∈xs,c.length=sz:=fun c hc=>by
         obtain⟨i,hi,rfl⟩:=List.mem_iff_getElem.1 hc
         exact hsz' i _ (List.getElem?_eq_getElem hi)
        have hbase:(xs.length=0∧cap=0)∨ ∃b off,(some (⟨b0,off0,none⟩:Addr))=some ⟨b,off,none⟩∧(xs.length=cap∨(off=0∧own b=some (.pl p,xs.length*je.size)∧ ∃arr e',w.heap[b]? =some (.cells arr e' (0,0))∧arr.size=cap*je.size)):=by
         rcases hown' hnlf sz rfl with h|⟨b1,o1,l1,c1,h1,h2⟩
         ·rcases h with h|⟨z,h⟩
          ·cases h
          ·injection h with h1 h2 h3;exact .inl ⟨h2,h3⟩
         ·simp only[Value.slice.injEq,Option.some.injEq] at h1
          obtain⟨h0,rfl,rfl⟩:=h1
          rw[hs1];exact .inr ⟨b1,o1,by rw[h0],h2⟩
        refine fin (base:=some ⟨b0,off0,none⟩) (len:=xs.length) (cap:=cap) (olds:=vs) (by omega) hbe hc hm hbase (by rw[hs1];exact v1) (fun b off hb' j v hj=> ?_) v2 (by rw[hs1];exact hsrcn) hck2.1 hck2.2
         (by rw[hs1];rfl) (fun l0 _ n0 w' own' => ?_) (fun w' own' b off cap' hsub h1 h2 h3 h4=>repr w' own' b off cap' vs hsub rfl h2 h3 hxsz v1 (fun j v hj=>(v3 j v hj).2.2) h4)
        ·cases hb'
         obtain⟨g1,g2,_⟩:=v3 j v hj
         exact⟨g1,g2,v2 v (List.mem_of_getElem? hj)⟩
        ·have e1:xs=[]:=List.eq_nil_of_length_eq_zero l0
         have e2:ys=[]:=List.eq_nil_of_length_eq_zero n0
         subst e1 e2
         exact .slE sz _ 0 (by omega)
       |slE _ ad cap hm=>
        have hnlf:ow=true:=by
         rcases hck.1.1 with h|h
         ·exact h
         ·cases h
        have hbase:(0=0∧cap=0)∨ ∃b off,(some (ad:Addr))=some ⟨b,off,none⟩∧(0=cap∨(off=0∧own b=some (.pl p,0*je.size)∧ ∃arr e',w.heap[b]? =some (.cells arr e' (0,0))∧arr.size=cap*je.size)):=by
         rcases hown' hnlf sz rfl with h|⟨b1,o1,l1,c1,h1,h2⟩
         ·rcases h with h|⟨z,h⟩
          ·cases h
          ·injection h with h1 h2 h3;exact .inl ⟨h2,h3⟩
         ·simp only[Value.slice.injEq,Option.some.injEq] at h1
          obtain⟨h0,rfl,rfl⟩:=h1
          rw[hs1];exact .inr ⟨b1,o1,by rw[h0],h2⟩
        refine fin (base:=some ad) (len:=0) (cap:=cap) (olds:=[]) (by omega) hbe (by omega) hm hbase (by simp) (fun b off hb' j v hj=>by simp at hj) (by simp) (by rw[hs1];exact hsrcn) (by simpa using hck2.1) (by simpa using hck2.2)
         (by rw[hs1];rfl) (fun _ _ n0 w' own' => ?_) (fun w' own' b off cap' hsub h1 h2 h3 h4=> ?_)
        ·have e2:ys=[]:=List.eq_nil_of_length_eq_zero n0
         subst e2
         exact .slE sz _ 0 (by omega)
        ·have:=repr w' own' b off cap' [] hsub rfl (by simpa using h2) h3 (fun c hc=>by simp at hc) (by simp) (fun j v hj=>by simp at hj) (by simpa using h4)
         simpa using this
     ·cases hr
   ·cases hr
  ·cases hr
 ·cases hr
theorem append_sound (T:TOk P C.tt) (R:Rel C st a w own β) {x y:Operand} {t u:Nat} (hop:o.op= .call {callee:= .builtin .append,args:= #[x,y],argTypes:= #[t,u] })
  (hd: ∀t,o.dst=some t→t<a.tmps.size) (h:evBuiltin C st o.dst .append [x,y] [t,u]=some st') (hn:Next C st w own β a.tmps.size st' next):o.wp P a w next Q:=by
 simp only[evBuiltin] at h
 split at h
 ·rename_i b s hb hs
  have hbr:=evO_sound R hb
  have hsr:=evO_sound R hs
  split at h
  ·cases h
  ·rename_i hsrc
   split at h
   ·rename_i ow v st1 hbase
    split at h
    ·rename_i r hr
     cases h
     have hown:(isTmp x && hasPl (plOf x) st.owns)=true→OwnsAt w own (plOf x) (a.eval x) b:=by
      intro ho
      rw[Bool.and_eq_true] at ho
      cases x with
      |tmp i=>exact R.owns (.t i) ho.2 b _ ⟨hb,rfl⟩
      |const c=>cases ho.1
      |global g=>cases ho.1
      |func f=>cases ho.1
     have same:v=b→st1=st→ow=(isTmp x && hasPl (plOf x) st.owns)→o.wp P a w next Q:=by
      rintro rfl rfl rfl
      exact append_main T R hop hd hbr hsr hsrc hown hr hn
     cases b with
     |mu i off len cap sz=>
      simp only[baseD] at hbase
      split at hbase
      ·rename_i hlc
       split at hbase
       ·rename_i d st2 hd2
        cases hbase
        have hlc:=Nat.eq_of_beq_eq_true hlc
        obtain⟨own',R',E',hrd,ht,hlen⟩:=asD_sound R hd2 hbr
        refine append_main T R' hop hd (.d _ _ hrd) (hsr.mono E'.sub E'.wide (fun _ _ h=>h)) hsrc (fun _ sz' _=> ?_) hr (Next.of E' (by omega) (fun _ _ _ h=>h) hn)
        generalize a.eval x=u0 at hbr
        cases hbr with
        |mu _ _ _ _ _ b0 ad hβ hsp hc hm ha hb0=>
         by_cases h0:cap=0
         ·subst h0
          have:len=0:=hlc
          subst this
          exact .inl (empty0 _)
         ·exact .inr ⟨b0,off,len,cap,by rw[ha h0],.inl hlc⟩
       ·cases hbase
      ·cases hbase
     |any=>simp only[baseD] at hbase;cases hbase;exact same rfl rfl rfl
     |skip=>simp only[baseD] at hbase;cases hbase;exact same rfl rfl rfl
     |d x=>simp only[baseD] at hbase;cases hbase;exact same rfl rfl rfl
     |ptr i o=>simp only[baseD] at hbase;cases hbase;exact same rfl rfl rfl
     |gp i o=>simp only[baseD] at hbase;cases hbase;exact same rfl rfl rfl
     |fn i o=>simp only[baseD] at hbase;cases hbase;exact same rfl rfl rfl
     |agg i=>simp only[baseD] at hbase;cases hbase;exact same rfl rfl rfl
     |tup i=>simp only[baseD] at hbase;cases hbase;exact same rfl rfl rfl
    ·cases h
   ·cases h
 ·cases h
end Go.VM
