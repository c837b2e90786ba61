/- The machine over values: a call to which blocks are handed is sound. -/
import Derived.Test.YthpmkmogoejjpaaGreatDoorVMJ
set_option linter.unusedSimpArgs false
set_option linter.unusedVariables false
namespace Go.VM
open Go
variable {P : Program} {C : Ctx} {st st' : St} {a : Act} {w : World} {own : Own} {β : Nat → Option Nat}
variable {o : Oper} {next : Act → World → Prop} {Q : Exit → Act → World → Prop}
theorem look_argsT: ∀ {args:List V} {i t:Nat} {x:V},look t (argsT i args)=some x→i≤t∧args[t-i]? =some x
 |[],i,t,x,h=>by simp[argsT,look] at h
 |y::l,i,t,x,h=>by
  simp only[argsT,look] at h
  cases e:Nat.beq t i with
  |true=>
   rw[e] at h;cases h
   have:=Nat.eq_of_beq_eq_true e
   subst this
   simp
  |false=>
   rw[e] at h
   obtain⟨h1,h2⟩:=look_argsT h
   refine⟨by omega, ?_⟩
   have:t-i=(t-(i+1))+1:=by omega
   rw[this];simpa using h2
theorem look_argsT_mk: ∀ {args:List V} {i j:Nat} {x:V},args[j]? =some x→look (i+j) (argsT i args)=some x
 |[],i,j,x,h=>by simp at h
 |y::l,i,j,x,h=>by
  simp only[argsT,look]
  cases j with
  |zero=>simp at h;subst h;rw[Nat.add_zero,Nat.beq_refl];rfl
  |succ j=>
   have:Nat.beq (i+(j+1)) i=false:=nbeq_false (by omega)
   rw[this]
   have h2:=look_argsT_mk (args:=l) (i:=i+1) (j:=j) (x:=x) (by simpa using h)
   rw[show i+(j+1)=i+1+j by omega]
   exact h2
theorem argP_sound (R:Rel C st a w own β) {v x:V} {raw:Bool} (h:argP C raw st v=some (x,st')) {u:Value} (hu:RepV w own β u v):
  ∃own',Rel C st' a w own' β∧Ext w own w own' ∧RepV w own' β u x∧st'.tmps=st.tmps∧st'.blocks.length=st.blocks.length:=by
 have same:(v,st)=(x,st')→ ∃own',Rel C st' a w own' β∧Ext w own w own' ∧RepV w own' β u x∧st'.tmps=st.tmps∧st'.blocks.length=st.blocks.length:=by
  intro e;cases e;exact⟨own,R,Ext.refl w own,hu,rfl,rfl⟩
 cases v with
 |ptr i o=>exact same (Option.some.inj h)
 |agg cs=>exact same (Option.some.inj h)
 |fn f cs=>exact same (Option.some.inj h)
 |mu i o l c s=>
  cases raw with
  |true=>exact same (Option.some.inj h)
  |false=>exact argV_sound (v:= .mu i o l c s) R h hu
 |any=>exact argV_sound (v:= .any) R h hu
 |skip=>exact argV_sound (v:= .skip) R h hu
 |d x=>exact argV_sound (v:= .d x) R h hu
 |gp g o=>exact argV_sound (v:= .gp g o) R h hu
 |tup vs=>exact argV_sound (v:= .tup vs) R h hu
theorem evArgsP_sound {raw:Bool}: ∀ {xs:List Operand} {ts:List Nat} {vs:List V} {st st' :St} {own:Own},Rel C st a w own β→evArgsP C raw st xs ts=some (vs,st')→
  ∃own',Rel C st' a w own' β∧Ext w own w own' ∧st'.tmps=st.tmps∧st'.blocks.length=st.blocks.length∧vs.length=xs.length∧
   (∀(j:Nat) (v:V),vs[j]? =some v→RepV w own' β ((xs.map a.eval).getD j undef) v)∧
   ∀(i s:Nat) (y:D),xs[i]? =some (.tmp s)→look s st.tmps=some (.d y)→vs[i]? =some (.d y)
 |[],ts,vs,st,st',own,R,h=>by
  simp only[evArgsP,Option.some.injEq,Prod.mk.injEq] at h
  obtain⟨rfl,rfl⟩:=h
  exact⟨own,R,Ext.refl w own,rfl,rfl,rfl,fun j v h=>by simp at h,fun i s y h=>by simp at h⟩
 |x::xs,ts,vs,st,st',own,R,h=>by
  simp only[evArgsP] at h
  split at h
  ·rename_i v hv
   split at h
   ·rename_i y s1 hy
    split at h
    ·rename_i ys s2 hys
     cases h
     obtain⟨own1,R1,E1,r1,t1,l1⟩:=argP_sound R hy (evO_sound R hv)
     obtain⟨own2,R2,E2,t2,l2,n2,r2,d2⟩:=evArgsP_sound R1 hys
     refine⟨own2,R2,E1.trans E2,t2.trans t1,l2.trans l1,by simp[n2],fun j v h=> ?_,fun i s z hx hz=> ?_⟩
     ·cases j with
      |zero=>simp at h;subst h;exact r1.mono E2.sub E2.wide (fun _ _ h=>h)
      |succ j=>simpa using r2 j v (by simpa using h)
     ·cases i with
      |zero=>
       simp at hx
       subst hx
       have hv' :look s st.tmps=some v:=hv
       rw[hz] at hv';cases hv'
       simp[argP,argV,asD] at hy
       simp[←hy.1]
      |succ i=>
       have:=d2 i s z (by simpa using hx) (by rw[t1];exact hz)
       simpa using this
    ·cases h
   ·cases h
  ·cases h
theorem rooms_mem {st:St}: ∀ {xs:List Operand} {vs:List V} {j0:Nat} {r:Option Nat} {j:Nat},(r,j)∈rooms st j0 xs vs→
  ∃i x v,j=j0+i∧xs[i]? =some x∧vs[i]? =some v∧((r=none∧isNilD v=true)∨ ∃s y,r=some s∧x= .tmp s∧look s st.tmps=some (.d y)∧hasPl (.t s) st.owns=true)
 |[],vs,j0,r,j,h=>by simp[rooms] at h
 |x::xs,[],j0,r,j,h=>by simp[rooms] at h
 |x::xs,v::vs,j0,r,j,h=>by
  have old:(r,j)∈rooms st (j0+1) xs vs→ ∃i x' v',j=j0+i∧(x::xs)[i]? =some x' ∧(v::vs)[i]? =some v' ∧((r=none∧isNilD v' =true)∨ ∃s y,r=some s∧x' = .tmp s∧look s st.tmps=some (.d y)∧hasPl (.t s) st.owns=true):=by
   intro h
   obtain⟨i,x',v',h1,h2,h3,h4⟩:=rooms_mem h
   exact⟨i+1,x',v',by omega,by simpa using h2,by simpa using h3,h4⟩
  simp only[rooms] at h
  split at h
  ·rename_i q hq
   rcases List.mem_cons.1 h with h|h
   ·cases h
    refine⟨0,x,v,rfl,rfl,rfl, ?_⟩
    unfold roomOf at hq
    cases hn:isNilD v with
    |true=>rw[hn] at hq;cases hq;exact .inl ⟨rfl,rfl⟩
    |false=>
     rw[hn] at hq
     simp only[cond_false] at hq
     split at hq
     ·rename_i s
      split at hq
      ·rename_i y hy
       cases h1:isSl (.d y) with
       |false=>rw[h1] at hq;cases hq
       |true=>
        rw[h1] at hq
        simp only[cond_true] at hq
        cases h2:hasPl (.t s) st.owns with
        |false=>rw[h2] at hq;cases hq
        |true=>rw[h2] at hq;cases hq;exact .inr ⟨s,y,rfl,rfl,hy,h2⟩
      ·cases hq
     ·cases hq
   ·exact old h
  ·exact old h
theorem roomsOk_at {rs:List (Option Nat×Nat)}: ∀ {l:List (Option Nat×Nat)},roomsOk rs l=true→ ∀ {s j:Nat},(some s,j)∈l→findS s rs=some j
 |[],_,s,j,h=>by cases h
 |(none,k)::l,h,s,j,hm=>by
  rcases List.mem_cons.1 hm with e|e
  ·cases e
  ·exact roomsOk_at (l:=l) h e
 |(some u,k)::l,h,s,j,hm=>by
  simp only[roomsOk] at h
  split at h
  ·rename_i q hq
   cases e:Nat.beq q k with
   |false=>rw[e] at h;cases h
   |true=>
    rw[e] at h
    have:=Nat.eq_of_beq_eq_true e
    subst this
    rcases List.mem_cons.1 hm with e2|e2
    ·cases e2;exact hq
    ·exact roomsOk_at (l:=l) h e2
  ·cases h
theorem mem_roomPl {p:Pl}: ∀ {l:List (Option Nat×Nat)},p∈roomPl l→ ∃r j,p= .t j∧(r,j)∈l
 |[],h=>by simp[roomPl] at h
 |(r,j)::l,h=>by
  simp only[roomPl,List.mem_cons] at h
  rcases h with h|h
  ·exact⟨r,j,h,List.mem_cons_self ..⟩
  ·obtain⟨r',j',h1,h2⟩:=mem_roomPl h
   exact⟨r',j',h1,List.mem_cons_of_mem _ h2⟩
theorem hand_soundI (K:CallsOk P C) (R:Rel C st a w own β) {c:Call} {f:Operand} (hop:o.op= .call c) (hc:c.callee= .value f)
  (hd: ∀t,o.dst=some t→t<a.tmps.size) {g:FuncId} {caps:List V} (hg:calleeOf st f=some (g,caps)) {raw raw2:Bool} {ix:St→List V→List Nat}
  (h:(match evArgsP C raw st c.args.toList c.argTypes.toList with
      |some (vs,st)=>handOn C (ix st (vs++caps)) (roomsIf raw2 st c.args.toList vs) st g (vs++caps) o.dst
      |none=>none)=some st')
  (hn:Next C st w own β a.tmps.size st' next):o.wp P a w next Q:=by
 split at h
 ·rename_i vs s1 hvs
  unfold handOn at h
  generalize ix s1 (vs++caps)=idx at h
  generalize hrs:roomsIf raw2 s1 c.args.toList vs=rs at h
  split at h
  ·rename_i xs bs hxs hbs hck
   split at h
   ·rename_i hh hr
    obtain⟨arr,hrun,hcs,hcr⟩:=run_callee (P:=P) R hg (c.args.map a.eval)
    obtain⟨own1,R1,E1,t1,l1,n1,r1,dat⟩:=evArgsP_sound R hvs
    obtain⟨⟨fn,hfn,hname,hbody⟩,hS⟩:=K.2 g _ _ _ hh hr
    have hnd:nodupB idx=true:=by
     cases e:nodupB idx with
     |true=>rfl
     |false=>rw[e] at hck;cases hck
    have hall:allSome (getOs s1.blocks idx)=true:=by
     rw[hnd] at hck
     cases e:allSome (getOs s1.blocks idx) with
     |true=>rfl
     |false=>rw[e] at hck;cases hck
    have hro:roomsOk rs rs=true:=by rw[hnd,hall] at hck;exact hck
    have hx:(execOp a.eval o).run P w= .ok (.enter g (c.args.map a.eval++arr)) w:=by
     simp only[execOp,hop,resolve,hc,Sem.run_bind,hrun,Result.andThen_ok,invoke,callFunc]
     have hname' : ¬fn.name= "runtime.NumGoroutine" :=by simpa using hname
     have hbody' : ¬fn.body=none:=fun e=>by rw[e] at hbody;cases hbody
     simp[hfn,hname',hbody']
    unfold Oper.wp
    rw[hx]
    have hsz:(c.args.map a.eval++arr).size=xs.length:=by
     rw[(renL_some hxs).1];simp[n1,hcs]
    have hval: ∀(j:Nat) (x:V),(vs++caps)[j]? =some x→RepV w own1 β ((c.args.map a.eval++arr).getD j undef) x:=by
     intro j x hx
     rw[getD_append,Array.size_map]
     rw[List.getElem?_append,n1,Array.length_toList] at hx
     split at hx
     ·rename_i hlt
      rw[if_pos hlt]
      have:=r1 j x hx
      rw[←Array.toList_map,getD_toList] at this
      exact this
     ·rename_i hlt
      rw[if_neg hlt]
      exact(hcr _ x hx).mono E1.sub E1.wide (fun _ _ h=>h)
    have hβ0: ∀i k,idxOf idx i=some k→ ∀b,β i=some b→turnβ idx β k=some b:=fun i k h b hb=>by rw[turnβ_at (idxOf_at h),hb]
    have RT:Rel C {tmps:=argsT 0 xs,blocks:=bs,owns:=renPl (idxOf idx) s1.owns++roomPl rs} {tmps:=c.args.map a.eval++arr,defers:=[] } w (maskOwn (idxOf idx) β (zRoom rs) own1) (turnβ idx β):=by
     refine R1.turnX hnd hbs (fun t x hx=> ?_) (fun p hp=> ?_)
     ·obtain⟨_,h1⟩:=look_argsT hx
      obtain⟨y,h2,h3⟩:=(renL_some hxs).2 (t-0) x h1
      exact(hval t y (by simpa using h2)).ren (sub_mask w) (Wide.refl w) hβ0 h3
     ·obtain⟨r,j,rfl,hm⟩:=mem_roomPl hp
      refine⟨j,rfl,fun x hx=> ?_⟩
      have hm0:(r,j)∈rooms s1 0 c.args.toList vs:=by
       rw[←hrs] at hm
       cases raw2 with
       |true=>exact hm
       |false=>cases hm
      obtain⟨i,x',v',rfl,g1,g2,g3⟩:=rooms_mem hm0
      simp only[Nat.zero_add] at hm hx⊢
      obtain⟨_,h1⟩:=look_argsT hx
      simp only[Nat.sub_zero] at h1
      obtain⟨y,h2,h3⟩:=(renL_some hxs).2 i x h1
      have hlt:i<vs.length:=(List.getElem?_eq_some_iff.1 g2).1
      rw[List.getElem?_append_left hlt,g2] at h2
      cases h2
      have hvi:=hval i v' (by rw[List.getElem?_append_left hlt];exact g2)
      rcases g3 with⟨_,hn⟩|⟨s,y,rfl,rfl,hy,ho⟩
      ·intro sz _;exact .inl (nil_empty hvi hn)
      ·have hvs:=dat i s y g1 (by rw[←t1];exact hy)
       rw[g2] at hvs;cases hvs
       cases h3
       have hval2:(c.args.map a.eval++arr).getD i undef=a.tmps.getD s undef:=by
        have hia:i<c.args.size:=by have:=(List.getElem?_eq_some_iff.1 g1).1;simpa using this
        rw[getD_append,Array.size_map,if_pos hia]
        have:c.args[i]? =some (.tmp s):=by simpa using g1
        have e0:a.eval (.tmp s)=a.tmps.getD s undef:=rfl
        rw[←e0]
        simp only[Array.getD_eq_getD_getElem?,Array.getElem?_map,this,Option.map_some,Option.getD_some]
       have hO:=R1.owns (.t s) ho (.d y) (a.tmps.getD s undef) ⟨hy,rfl⟩
       rw[hval2]
       have hfs:=roomsOk_at hro hm
       intro sz hsz
       rcases hO sz hsz with h0|⟨b,o,len,cap,q1,q2⟩
       ·exact .inl h0
       ·refine .inr ⟨b,o,len,cap,q1, ?_⟩
        rcases q2 with q2|⟨q2,q3,q4⟩
        ·exact .inl q2
        ·exact .inr ⟨q2,by simp[maskOwn,q3,zRoom,hfs],q4⟩
    have hlen:bs.length=idx.length:=(renBs_some hbs).1.trans (getOs_len _ _)
    refine Calls.mono (hS C _ w _ _ rfl hsz RT) (fun e w' ⟨v,own1',β1',he,E,hβ,us,hus,hv,R',hown⟩=> ?_)
    subst he
    unfold takeBack at h
    split at h
    ·rename_i ys bs' hys hbs' hck2
     cases h
     obtain⟨hk,hs⟩:=headOk_iff hck2
     have M:=fun f=>by
      have:=R1.merge rs hnd hall R' E (fun k h b hb=>hβ k (by omega) b hb) hk hs hbs' f
      rw[←dropL_eq] at this
      exact this
     generalize hst2:({tmps:=s1.tmps,blocks:=setBs idx bs' s1.blocks++dropL idx bs',owns:=renPl (outIx idx s1.blocks.length) hh.bown++dropPl (goneB idx rs) s1.owns}:St)=st2 at*
     have rv: ∀f (j:Nat) (y:V),ys[j]? =some y→RepV w' (mergeOwn own1 (maskOwn (idxOf idx) β (zRoom rs) own1) own1' (outN idx s1.blocks.length) f) (joinβ idx.length s1.blocks.length β β1') (us.getD j undef) y:=by
      intro f j y hy
      obtain⟨x,h1,h2⟩:=(renL_some hys).2 j y hy
      have h3:=R'.tmps j x (by have:=look_argsT_mk (i:=0) h1;simpa using this)
      refine h3.ren (M f).2.1 (Wide.refl w') (fun i k hk b hb=> ?_) h2
      simp only[outIx,Option.some.injEq] at hk
      subst hk
      exact(M f).2.2.1 i b hb
     have ro: ∀f (j:Nat) (y:V),j∈hh.own→ys[j]? =some y→OwnsAt w' (mergeOwn own1 (maskOwn (idxOf idx) β (zRoom rs) own1) own1' (outN idx s1.blocks.length) f) (f (.c 0 j)) (us.getD j undef) y:=by
      intro f j y hj hy
      obtain⟨x,h1,h2⟩:=(renL_some hys).2 j y hy
      exact owns_merge E (szOf_ren h2) (hown j hj x h1)
     have key: ∀(f:Pl→Pl) (st3:St),St.putRet st2 o.dst ⟨ys,hh.own⟩=st3→
       Rel C st3 (a.put o.dst v) w' (mergeOwn own1 (maskOwn (idxOf idx) β (zRoom rs) own1) own1' (outN idx s1.blocks.length) f) (joinβ idx.length s1.blocks.length β β1')→next (a.put o.dst v) w' :=
      fun f st3 e R3=>hn _ _ _ _ (e▸R3) (E1.trans (M f).1) (fun i hi b hb=>(M f).2.2.2.1 i (by omega) b hb) (size_put a _ _)
     have hysl:ys.length=us.size:=(renL_some hys).1.trans hus.symm
     by_cases h1: ∃y,ys=[y]
     ·obtain⟨y,rfl⟩:=h1
      simp only[List.length_cons,List.length_nil,Nat.zero_add] at hysl
      rw[if_pos hysl.symm] at hv
      have R1' : ∀f,Rel C (st2.put o.dst y) (a.put o.dst v) w' (mergeOwn own1 (maskOwn (idxOf idx) β (zRoom rs) own1) own1' (outN idx s1.blocks.length) f) (joinβ idx.length s1.blocks.length β β1'):=
       fun f=>((M f).2.2.2.2).put hd (by rw[hv];exact rv f 0 y rfl)
      cases hdst:o.dst with
      |none=>
       rw[←hdst]
       refine key id (st2.put o.dst y) ?_ (R1' id)
       unfold St.putRet
       rw[hdst]
       cases hasNat 0 hh.own<;>rfl
      |some d=>
       rw[←hdst]
       cases hb:hasNat 0 hh.own with
       |false=>exact key id (st2.put o.dst y) (by unfold St.putRet;simp only[hb];rfl) (R1' id)
       |true=>
        refine key (fun p=>if p= .c 0 0 then .t d else p) { (st2.put o.dst y) with owns:=[.t d]++(st2.put o.dst y).owns} (by unfold St.putRet;rw[hdst];simp only[hb,St.own];rfl) ?_
        refine(R1' _).ownMore (fun p hpm z u hy=> ?_) (fun i j h=>by simp at h)
        simp only[List.mem_singleton] at hpm
        subst hpm
        obtain⟨h2,h3⟩:=hy
        rw[hdst] at h2 h3
        simp only[St.put,look_ins_same,Option.some.injEq] at h2
        rw[tmps_put_some,getD_set_same _ _ _ (hd d hdst)] at h3
        subst h2 h3
        have:=ro (fun p=>if p= .c 0 0 then .t d else p) 0 y (hasNat_iff.1 hb) rfl
        rw[hv]
        simpa using this
     ·have hne: ∀y,ys≠[y]:=fun y e=>h1 ⟨y,e⟩
      have hs1:us.size≠1:=fun e=>by
       rw[e] at hysl
       obtain⟨y,hy⟩:=List.length_eq_one_iff.1 hysl
       exact hne y hy
      rw[if_neg hs1] at hv
      have R1' : ∀f,Rel C (st2.put o.dst (.tup ys)) (a.put o.dst v) w' (mergeOwn own1 (maskOwn (idxOf idx) β (zRoom rs) own1) own1' (outN idx s1.blocks.length) f) (joinβ idx.length s1.blocks.length β β1'):=
       fun f=>((M f).2.2.2.2).put hd (by rw[hv];exact .tup us ys hysl.symm (fun j x hx=>rv f j x hx))
      have eP:st2.putRet o.dst ⟨ys,hh.own⟩=(match o.dst with
       |some d=> { (st2.put o.dst (.tup ys)) with owns:=ownC d hh.own++(st2.put o.dst (.tup ys)).owns}
       |none=>st2.put o.dst (.tup ys)):=by
       unfold St.putRet
       split
       ·rename_i x hx;exact absurd hx (hne x)
       ·rfl
      cases hdst:o.dst with
      |none=>
       have:=R1' id
       rw[hdst] at eP this
       have k:=key id (st2.put none (.tup ys)) (by rw[hdst];exact eP)
       rw[hdst] at k
       exact k this
      |some d=>
       have:=R1' (fun p=>match p with| .c _ j=> .c d j|p=>p)
       rw[hdst] at eP this
       have k:=key (fun p=>match p with| .c _ j=> .c d j|p=>p) { (st2.put (some d) (.tup ys)) with owns:=ownC d hh.own++(st2.put (some d) (.tup ys)).owns} (by rw[hdst];exact eP)
       rw[hdst] at k
       refine k (this.ownMore (fun p hpm y u hy=> ?_) (fun i j h=>by obtain⟨_,_,h⟩:=mem_ownC.1 h;cases h))
       obtain⟨j,hj,rfl⟩:=mem_ownC.1 hpm
       obtain⟨us',arr',h2,h3,h4,h5⟩:=hy
       simp only[St.put,look_ins_same,Option.some.injEq,V.tup.injEq] at h2
       rw[tmps_put_some,getD_set_same _ _ _ (hd d hdst),hv,Value.tuple.injEq] at h4
       subst h2 h4 h5
       exact ro (fun p=>match p with| .c _ j=> .c d j|p=>p) j y hj h3
    ·cases h
   ·cases h
  ·cases h
 ·cases h
theorem hand_sound (K:CallsOk P C) (R:Rel C st a w own β) {c:Call} {f:Operand} (hop:o.op= .call c) (hc:c.callee= .value f)
  (hd: ∀t,o.dst=some t→t<a.tmps.size) {g:FuncId} {caps:List V} (hg:calleeOf st f=some (g,caps)) {raw raw2:Bool}
  (h:(match evArgsP C raw st c.args.toList c.argTypes.toList with
      |some (vs,st)=>handOver C (roomsIf raw2 st c.args.toList vs) st g (vs++caps) o.dst
      |none=>none)=some st')
  (hn:Next C st w own β a.tmps.size st' next):o.wp P a w next Q:=
 hand_soundI K R hop hc hd hg (raw:=raw) (raw2:=raw2) (ix:=handed) h hn
end Go.VM
set_option linter.unusedSimpArgs false
set_option linter.unusedVariables false
namespace Go.VM
open Go
variable {P : Program} {C : Ctx} {st st' : St} {a : Act} {w : World} {own : Own} {β : Nat → Option Nat}
variable {o : Oper} {next : Act → World → Prop} {Q : Exit → Act → World → Prop}
theorem op_sound (T:TOk P C.tt) (K:CallsOk P C) (R:Rel C st a w own β) (hd: ∀t,o.dst=some t→t<a.tmps.size) {slot:Option Nat} (hs:SlotOk st slot)
  (h:evOp C slot o st=some st') (hn:Next C st w own β a.tmps.size st' next):o.wp P a w next Q:=by
 cases hop:o.op with
 |move x=>exact move_sound R hop hd h hn
 |assign x=>exact assign_sound R hop hd h hn
 |pick c x y=>exact pick_sound R hop hd h hn
 |alloc e=>exact alloc_sound T R hop hd hs h hn
 |box e x=>exact box_sound R hop hd hs h hn
 |build t ps=>exact build_sound T R hop hd h hn
 |buildSlice t n ps=>exact buildSlice_sound T R hop hd hs h hn
 |load t x=>exact load_sound T R hop hd h hn
 |store t x y=>exact store_sound T R hop hd h hn
 |nilCheck x=>exact nilCheck_sound R hop hd h hn
 |binOp op t x y u=>exact binOp_sound T R hop hd h hn
 |unOp op t x=>exact unOp_sound R hop hd h hn
 |convert s d x=>exact convert_sound T R hop hd h hn
 |makeInterface t x=>exact makeInterface_sound T R hop hd h hn
 |makeFunc f first caps=>
  cases f with
  |func f=>exact makeFunc_sound R hop hd h hn
  |_=>simp[evOp,hop] at h
 |makeSlice t l c=>exact makeSlice_sound T R hop hd hs h hn
 |slice t x lo hi mx=>exact slice_sound T R hop hd h hn
 |fieldAddr s x f=>exact fieldAddr_sound T R hop hd h hn
 |field s x f=>exact field_sound T R hop hd h hn
 |indexAddr t x ix=>exact indexAddr_sound T R hop hd h hn
 |index t x ix=>exact index_sound T R hop hd h hn
 |extract x j=>exact extract_sound R hop hd h hn
 |sliceToArrayPointer t x=>exact arrayAt_sound T R hop hd h hn
 |call c=>
  cases hc:c.callee with
  |builtin b=>exact builtin_sound T R hop hc hd (by simpa only[evOp,hop,hc] using h) hn
  |value f=>
   simp only[evOp,hop,hc] at h
   split at h
   ·rename_i g caps hg
    split at h
    ·exact call_sound K R hop hc hd hg h hn
    ·exact hand_sound K R hop hc hd hg h hn
   ·cases h
  |invoke r m=>simp[evOp,hop,hc] at h
 |_=>simp[evOp,hop] at h
theorem wanted_sound {ops:Array Oper} {b:Bool} (R:Rel C st a w own β) (h:wantedV ops st o=some b):Region.wanted o (yielded ops a.tmps)=b:=by
 unfold wantedV at h
 unfold Region.wanted
 split at h
 ·rename_i hg;rw[hg];cases h;rfl
 ·rename_i j want hg
  rw[hg]
  simp only
  split at h
  ·rename_i oj hj
   split at h
   ·rename_i t ht
    have key:yielded ops a.tmps j=(match a.tmps[t]? with|some (.bool b)=>some b|_=>none):=by
     simp[yielded,hj,ht];rfl
    split at h
    ·rename_i c hl
     cases h
     have hv:=inv_bool (R.tmps t _ hl)
     have hlt:a.tmps[t]? =some (.bool c):=by
      simp only[Array.getD_eq_getD_getElem?] at hv
      cases e:a.tmps[t]? with
      |none=>rw[e] at hv;cases hv
      |some u=>rw[e] at hv;simpa using hv
     rw[key,hlt]
     cases c<;>cases want<;>rfl
    ·rename_i hl
     cases h
     have hv:=R.tmps t _ hl
     generalize e:a.tmps.getD t undef=u at hv
     cases hv
     have:(match a.tmps[t]? with|some (.bool b)=>some b|_=>none)=none:=by
      simp only[Array.getD_eq_getD_getElem?] at e
      cases e2:a.tmps[t]? with
      |none=>rfl
      |some u=>rw[e2] at e;simp at e;subst e;rfl
     rw[key,this];rfl
    ·cases h
   ·cases h
  ·cases h
def dstOk (n:Nat) (o:Oper):Bool:=
 match o.dst with
 |some t=>Nat.blt t n
 |none=>true
theorem dstOk_lt {n:Nat} (h:dstOk n o=true): ∀t,o.dst=some t→t<n:=by
 intro t ht
 simp only[dstOk,ht] at h
 simpa[Nat.blt_eq] using h
theorem evOps_sound (T:TOk P C.tt) (K:CallsOk P C) {ops:Array Oper} {N:Nat}: ∀ {l:List Oper} {idx:List Nat} {st st' :St} {a:Act} {w:World} {own:Own} {β:Nat→Option Nat},
  (idx.map (ops[·]?)=l.map some)→(∀o∈l,dstOk N o=true)→a.tmps.size=N→Rel C st a w own β→evOps C ops l st=some st' →Next C st w own β N st' (Q .normal)→
  wpOps P ops Q idx a w
 |[],idx,st,st',a,w,own,β,hi,hd,hN,R,h,hn=>by
  simp at hi
  subst hi
  simp only[evOps,Option.some.injEq] at h
  subst h
  exact hn _ _ _ _ R (Ext.refl w own) (fun _ _ _ h=>h) hN
 |o::l,idx,st,st',a,w,own,β,hi,hd,hN,R,h,hn=>by
  obtain⟨i,is,rfl⟩: ∃i is,idx=i::is:=by
   cases idx with
   |nil=>simp at hi
   |cons i is=>exact⟨i,is,rfl⟩
  simp only[List.map_cons,List.cons.injEq] at hi
  obtain⟨hi1,hi2⟩:=hi
  have hdo: ∀t,o.dst=some t→t<a.tmps.size:=by rw[hN];exact dstOk_lt (hd o (List.mem_cons_self ..))
  have hdl: ∀o∈l,dstOk N o=true:=fun o ho=>hd o (List.mem_cons_of_mem _ ho)
  simp only[wpOps,hi1]
  simp only[evOps] at h
  split at h
  ·rename_i hw
   rw[wanted_sound R hw,if_pos rfl]
   left
   split at h
   ·rename_i s1 h1
    refine op_sound T K R hdo (slot:=none) trivial h1 (fun a1 w1 own1 β1 R1 E1 hb1 hN1=> ?_)
    refine evOps_sound T K hi2 hdl (hN1.trans hN) R1 h (fun a2 w2 own2 β2 R2 E2 hb2 hN2=> ?_)
    refine hn _ _ _ _ R2 (E1.trans E2) (fun i hi b hb=> ?_) hN2
    have hb3:=hb1 i hi b hb
    refine hb2 i ?_ b hb3
    rcases Nat.lt_or_ge i s1.blocks.length with h5|h5
    ·exact h5
    ·rw[R1.fresh i h5] at hb3;cases hb3
   ·cases h
  ·rename_i hw
   rw[wanted_sound R hw]
   simp only[Bool.false_eq_true,if_false]
   have R1:=R.put (d:=o.dst) hdo (v:=undef) (x:= .skip) .skip
   refine evOps_sound T K hi2 hdl ((size_put a _ _).trans hN) R1 h (fun a2 w2 own2 β2 R2 E2 hb2 hN2=> ?_)
   exact hn _ _ _ _ R2 E2 (fun i hi b hb=>hb2 i (by rw[blocks_put];exact hi) b hb) hN2
  ·cases h
theorem range_ops (ops:Array Oper):(List.range ops.size).map (ops[·]?)=ops.toList.map some:=by
 apply List.ext_getElem?
 intro i
 simp only[List.getElem?_map]
 rcases Nat.lt_or_ge i ops.size with h|h
 ·simp[h]
 ·simp[h]
end Go.VM
