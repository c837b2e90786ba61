/- The machine over values: what each operation does is told apart from the state: calls and stores. -/
import Derived.Test.YthpmkmogoejjpaaGreatDoorVML
set_option linter.unusedSimpArgs false
set_option linter.unusedVariables false
namespace Go.VM
open Go
variable {C : Ctx} {n i : Nat} {fl : Bool} {o : Oper} {s s1 s2 : St}
theorem bnd_same {lo:Option Operand} {d:Int} (h: ∀x,lo=some x→evO C s2 0 x=evO C s 0 x):bnd C s2 lo d=bnd C s lo d:=by
 cases lo with
 |none=>rfl
 |some x=>simp only[bnd,h x rfl]
theorem cong_slice {t:TypeId} {x:Operand} {lo hi mx:Option Operand} (hop:o.op= .slice t x lo hi mx) (h:opD C n i fl o s=some s1):Cong C n i fl o s s1:=by
 have hx:x∈o.op.operands.toList:=by simp[hop,Op.operands]
 have hlo: ∀y,lo=some y→y∈o.op.operands.toList:=fun y hy=>by subst hy;simp[hop,Op.operands]
 have hhi: ∀y,hi=some y→y∈o.op.operands.toList:=fun y hy=>by subst hy;simp[hop,Op.operands]
 have hmx: ∀y,mx=some y→y∈o.op.operands.toList:=fun y hy=>by subst hy;simp[hop,Op.operands]
 have el: ∀s2,Agree C n o (n+i) s s2→ ∀d,bnd C s2 lo d=bnd C s lo d:=fun s2 A d=>bnd_same fun y hy=>A.evO (hlo y hy)
 have eh: ∀s2,Agree C n o (n+i) s s2→ ∀d,bnd C s2 hi d=bnd C s hi d:=fun s2 A d=>bnd_same fun y hy=>A.evO (hhi y hy)
 have em: ∀s2,Agree C n o (n+i) s s2→ ∀d,bnd C s2 mx d=bnd C s mx d:=fun s2 A d=>bnd_same fun y hy=>A.evO (hmx y hy)
 have hr:isRd o=true:=by simp[isRd,hop]
 have h0:=h
 simp only[opD,evOp,hop] at h
 split at h
 ·rename_i v l hv hl
  split at h
  ·split at h
   ·rename_i r own hs
    refine cong_own r own (fun s2 A=> ?_) h0
    simp only[opD,evOp,hop,A.evO hx,el s2 A,hv,hl,evSlice_same hs (A.blk hr hx hv)]
   ·cases h
  ·rename_i q1
   split at h
   ·rename_i k hk
    split at h
    ·rename_i r own hs
     refine cong_own r own (fun s2 A=> ?_) h0
     simp only[opD,evOp,hop,A.evO hx,el s2 A,eh s2 A,hv,hl,hk,evSlice_same hs (A.blk hr hx hv)]
    ·cases h
   ·cases h
  ·rename_i q1 q2
   split at h
   ·rename_i k m hk hm
    split at h
    ·rename_i r own hs
     refine cong_own r own (fun s2 A=> ?_) h0
     simp only[opD,evOp,hop,A.evO hx,el s2 A,eh s2 A,em s2 A,hv,hl,hk,hm,evSlice_same hs (A.blk hr hx hv)]
    ·cases h
   ·cases h
  ·cases h
 ·cases h
theorem asD_same {v:V} {x:D} {s' :St} (h:asD C s v=some (x,s')): ∃l,s' =frzs l s∧(∀i∈l,i∈refs v∧(getB s i).isSome=true)∧
  ∀s2,(∀i∈refs v,BlkEq s s2 i)→asD C s2 v=some (x,frzs l s2):=by
 cases v with
 |d y=>
  simp only[asD,Option.some.injEq,Prod.mk.injEq] at h
  obtain⟨rfl,rfl⟩:=h
  exact⟨[],rfl,fun i hi=>by simp at hi,fun s2 _=>rfl⟩
 |mu m off len cap sz=>
  simp only[asD] at h
  split at h
  ·rename_i fz k xs e
   cases hc:Nat.beq sz 1 with
   |false=>rw[hc] at h;cases h
   |true=>
    rw[hc] at h
    cases h
    refine⟨[m],rfl,fun i hi=> ?_,fun s2 hb=> ?_⟩
    ·simp only[List.mem_singleton] at hi;subst hi;simp[refs,e]
    ·obtain⟨fz2,h2⟩:=(hb m (by simp[refs])).ints e
     simp only[asD,h2,hc,cond_true,frzs]
  ·rename_i fz cs e
   split at h
   ·rename_i ds hd
    cases h
    refine⟨[m],rfl,fun i hi=> ?_,fun s2 hb=> ?_⟩
    ·simp only[List.mem_singleton] at hi;subst hi;simp[refs,e]
    ·obtain⟨fz2,h2⟩:=(hb m (by simp[refs])).cells e
     simp only[asD,h2,hd,frzs]
   ·cases h
  ·cases h
 |ptr m off=>
  simp only[asD] at h
  split at h
  ·rename_i fz cs e
   split at h
   ·rename_i ds hd
    cases h
    refine⟨[m],rfl,fun i hi=> ?_,fun s2 hb=> ?_⟩
    ·simp only[List.mem_singleton] at hi;subst hi;simp[refs,e]
    ·obtain⟨fz2,h2⟩:=(hb m (by simp[refs])).cells e
     simp only[asD,h2,hd,frzs]
   ·cases h
  ·cases h
 |gp g off=>
  simp only[asD] at h
  split at h
  ·rename_i cs e
   cases h
   exact⟨[],rfl,fun i hi=>by simp at hi,fun s2 _=>by simp only[asD,e,frzs]⟩
  ·cases h
 |_=>simp[asD] at h
theorem argV_same {v u:V} {s' :St} (h:argV C s v=some (u,s')): ∃l,s' =frzs l s∧(∀i∈l,i∈refs v∧(getB s i).isSome=true)∧
  ∀s2,(∀i∈refs v,BlkEq s s2 i)→argV C s2 v=some (u,frzs l s2):=by
 have main: ∀v,(match asD C s v with
  |some (x,st)=>some (V.d x,st)
  |none=>none)=some (u,s')→ ∃l,s' =frzs l s∧(∀i∈l,i∈refs v∧(getB s i).isSome=true)∧
  ∀s2,(∀i∈refs v,BlkEq s s2 i)→(match asD C s2 v with
  |some (x,st)=>some (V.d x,st)
  |none=>none)=some (u,frzs l s2):=by
  intro v h
  split at h
  ·rename_i x st e
   cases h
   obtain⟨l,h1,h2,h3⟩:=asD_same e
   exact⟨l,h1,h2,fun s2 hb=>by rw[h3 s2 hb]⟩
  ·cases h
 cases v with
 |gp g off=>
  simp only[argV,Option.some.injEq,Prod.mk.injEq] at h
  obtain⟨rfl,rfl⟩:=h
  exact⟨[],rfl,fun i hi=>by simp at hi,fun s2 _=>rfl⟩
 |fn f cs=>
  simp only[argV] at h
  split at h
  ·rename_i e
   simp only[Option.some.injEq,Prod.mk.injEq] at h
   obtain⟨rfl,rfl⟩:=h
   exact⟨[],rfl,fun i hi=>by simp at hi,fun s2 _=>by simp only[argV,e,frzs]⟩
  ·cases h
 |agg cs=>
  simp only[argV] at h
  split at h
  ·rename_i e
   simp only[Option.some.injEq,Prod.mk.injEq] at h
   obtain⟨rfl,rfl⟩:=h
   exact⟨[],rfl,fun i hi=>by simp at hi,fun s2 _=>by simp only[argV,e,frzs]⟩
  ·cases h
 |_=>exact main _ h
theorem look_frzs: ∀(l:List Nat) (s:St),(frzs l s).tmps=s.tmps
 |[],s=>rfl
 |i::l,s=>by simp only[frzs];rw[look_frzs l,look_freeze]
theorem frzs_append: ∀(l l' :List Nat) (s:St),frzs (l++l') s=frzs l' (frzs l s)
 |[],l',s=>rfl
 |i::l,l',s=>by simp only[frzs,List.cons_append];exact frzs_append l l' _
theorem getB_frzs {l:List Nat} (h: ∀i∈l,(getB s i).isSome=true) (j:Nat):getB (frzs l s) j=if j∈l then(getB s j).map Blk.freeze else getB s j:=
 (eff_frzs l s h).blk j
theorem BlkEq.frzs {l:List Nat} (h1: ∀i∈l,(getB s i).isSome=true) (h2: ∀i∈l,(getB s2 i).isSome=true) {j:Nat} (h:BlkEq s s2 j):BlkEq (frzs l s) (frzs l s2) j:=by
 intro B hB
 rw[getB_frzs h1] at hB
 rw[getB_frzs h2]
 split at hB
 ·rename_i hj
  cases e:getB s j with
  |none=>rw[e] at hB;cases hB
  |some B0=>
   rw[e] at hB
   simp only[Option.map_some,Option.some.injEq] at hB
   subst hB
   obtain⟨B2,e2,e3⟩:=h _ e
   exact⟨B2.freeze,by rw[if_pos hj,e2];rfl,by rw[freeze_freeze,freeze_freeze,e3]⟩
 ·rename_i hj
  obtain⟨B2,e2,e3⟩:=h _ hB
  exact⟨B2,by rw[if_neg hj];exact e2,e3⟩
theorem isSome_frzs {l:List Nat} (h: ∀i∈l,(getB s i).isSome=true) {j:Nat} (hj:(getB (frzs l s) j).isSome=true):(getB s j).isSome=true:=by
 rw[getB_frzs h] at hj
 split at hj
 ·simpa using hj
 ·exact hj
theorem BlkEq.some {j:Nat} (h:BlkEq s s2 j) (hs:(getB s j).isSome=true):(getB s2 j).isSome=true:=by
 cases e:getB s j with
 |none=>rw[e] at hs;cases hs
 |some B=>obtain⟨B2,e2,_⟩:=h _ e;simp[e2]
theorem evArgs_same: ∀ {xs:List Operand} {ts:List Nat} {s s' :St} {vs:List V},evArgs C s xs ts=some (vs,s')→
  ∃l,s' =frzs l s∧(∀i∈l,(getB s i).isSome=true∧ ∃t v,Operand.tmp t∈xs∧look t s.tmps=some v∧i∈refs v)∧
  ∀s2,(∀t,Operand.tmp t∈xs→look t s2.tmps=look t s.tmps)→(∀t,Operand.tmp t∈xs→ ∀v,look t s.tmps=some v→ ∀i∈refs v,BlkEq s s2 i)→
   evArgs C s2 xs ts=some (vs,frzs l s2)
 |[],ts,s,s',vs,h=>by
  simp only[evArgs,Option.some.injEq,Prod.mk.injEq] at h
  obtain⟨rfl,rfl⟩:=h
  exact⟨[],rfl,fun i hi=>by simp at hi,fun s2 _ _=>rfl⟩
 |x::xs,ts,s,s',vs,h=>by
  simp only[evArgs] at h
  split at h
  ·rename_i v hv
   split at h
   ·rename_i u sm hu
    split at h
    ·rename_i us sf hus
     cases h
     obtain⟨l1,rfl,a2,a3⟩:=argV_same hu
     obtain⟨l2,rfl,b2,b3⟩:=evArgs_same hus
     have hsome: ∀i∈l1,(getB s i).isSome=true:=fun i hi=>(a2 i hi).2
     refine⟨l1++l2,by rw[frzs_append],fun i hi=> ?_,fun s2 ht hb=> ?_⟩
     ·rw[List.mem_append] at hi
      rcases hi with hi|hi
      ·obtain⟨r1,r2⟩:=a2 i hi
       refine⟨r2, ?_⟩
       rcases evO_refs hv with⟨t,rfl,hlk⟩|h0
       ·exact⟨t,v,List.mem_cons_self ..,hlk,r1⟩
       ·rw[h0] at r1;simp at r1
      ·obtain⟨r1,t,w,r2,r3,r4⟩:=b2 i hi
       rw[look_frzs] at r3
       exact⟨isSome_frzs hsome r1,t,w,List.mem_cons_of_mem _ r2,r3,r4⟩
     ·have hbv: ∀i∈refs v,BlkEq s s2 i:=by
       intro i hi
       rcases evO_refs hv with⟨t,rfl,hlk⟩|h0
       ·exact hb t (List.mem_cons_self ..) v hlk i hi
       ·rw[h0] at hi;simp at hi
      have hsome2: ∀i∈l1,(getB s2 i).isSome=true:=fun i hi=>(hbv i (a2 i hi).1).some (a2 i hi).2
      have e1:evO C s2 (ts.headD 0) x=evO C s (ts.headD 0) x:=evO_same (fun t hx=>ht t (by rw[←hx];exact List.mem_cons_self ..)) _
      have e2:=a3 s2 hbv
      have e3:=b3 (frzs l1 s2) (fun t hx=>by rw[look_frzs,look_frzs];exact ht t (List.mem_cons_of_mem _ hx)) (fun t hx w hw i hi=>by
       rw[look_frzs] at hw
       exact(hb t (List.mem_cons_of_mem _ hx) w hw i hi).frzs hsome hsome2)
      simp only[evArgs,e1,hv,e2,e3,frzs_append]
    ·cases h
   ·cases h
  ·cases h
theorem cong_frz {l:List Nat} {f:St→St} {δ:Dl} (hr:isRd o=true) (hnl:isLoad o=false) (hcv:isConv o=false) (hst:isSt C.lin o=false) (hv:fl=true→isVal o=true→l=[]) (hl: ∀i∈l,(getB s i).isSome=true∧ ∃t v,Operand.tmp t∈o.op.operands.toList∧look t s.tmps=some v∧i∈refs v)
  (hd:δ.dst=o.dst) (hb: ∀i x,δ.b i x=x) (ha: ∀p,δ.add p=true→dropD o.dst p=true) (hdr: ∀p,δ.drop p=true→dropD o.dst p=true)
  (hf: ∀s,Eff δ s (f s)) (h: ∀s2,Agree C n o (n+i) s s2→opD C n i fl o s2=some (f (frzs l s2))) (hs:opD C n i fl o s=some s1):Cong C n i fl o s s1:=by
 have:=h s (Agree.refl C n o _ s)
 rw[hs] at this;cases this
 have hw:isWr o=false:=isRd_notWr hr
 have hn:isNew o=false:=by
  cases hop:o.op<;>simp[isNew,isRd,hop] at hr⊢
 refine⟨(frzD l).comp δ,⟨?_,fun h3=>(by rw[hr] at h3;cases h3),fun h3=>(by rw[hn] at h3;cases h3),fun _ j=> ?_,fun h3=>(by rw[hw] at h3;cases h3),fun h3=>(by rw[hnl] at h3;cases h3),fun h3=>(by rw[hcv,hst] at h3;rcases h3 with h3|h3<;>cases h3),fun j x hx=> ?_,fun p hp=> ?_,fun p hp=> ?_⟩, ?_,fun s2 A=>⟨_,h s2 A, ?_⟩⟩
 ·simp only[Dl.comp,hd,frzD];cases o.dst<;>rfl
 ·simp only[Dl.comp,hb,frzD]
  by_cases hj:j∈l
  ·right
   obtain⟨r1,t,v,r2,r3,r4⟩:=hl j hj
   exact⟨fun x=>by simp[hj],r1,t,v,r2,r3,r4⟩
  ·left;intro x;simp[hj]
 ·simp only[Dl.comp,hb,frzD]
  split
  ·simpa using hx
  ·exact hx
 ·simp only[Dl.comp,frzD,Bool.false_and,Bool.or_false] at hp
  exact .inl (ha p hp)
 ·simp only[Dl.comp,frzD,Bool.or_eq_true,List.any_eq_true] at hp
  rcases hp with⟨j,hjl,hj⟩|hp
  ·refine .inr (.inr ⟨.inl ⟨hr,hnl,fun hfl=> ?_⟩, ?_⟩)
   ·cases e:isVal o with
    |false=>rfl
    |true=>rw[hv hfl e] at hjl;cases hjl
   cases p with
   |b x y=>exact⟨x,y,rfl⟩
   |_=>simp[Pl.ofBlk] at hj
  ·exact .inl (hdr p hp)
 ·exact Eff.comp (.inl rfl) (eff_frzs l s fun i hi=>(hl i hi).1) (hf _)
 ·refine Eff.comp (.inl rfl) (eff_frzs l s2 fun i hi=> ?_) (hf _)
  obtain⟨r1,t,v,r2,r3,r4⟩:=hl i hi
  exact(A.rd hr t r2 v r3 i r4).some r1
theorem cong_makeInterface {t:TypeId} {x:Operand} (hop:o.op= .makeInterface t x) (h:opD C n i fl o s=some s1):Cong C n i fl o s s1:=by
 have hx:x∈o.op.operands.toList:=by simp[hop,Op.operands]
 have hr:isRd o=true:=by simp[isRd,hop]
 have h0:=h
 simp only[opD,evOp,hop] at h
 split at h
 ·rename_i v hv
  split at h
  ·rename_i d sm ti hd hti
   obtain⟨l,rfl,a2,a3⟩:=asD_same hd
   split at h
   ·cases h
   ·rename_i hk
    refine cong_frz (l:=l) (f:=fun s=>s.put o.dst (.d (.ifc t d))) hr (by simp[isLoad,hop]) (by simp[isConv,hop]) (by simp[isSt,hop]) (fun _ h=>by simp[isVal,hop] at h) (fun j hj=>⟨(a2 j hj).2, ?_⟩) (δ:=⟨o.dst,.d (.ifc t d),fun _ b=>b,dropD o.dst,fun _=>false,0⟩) rfl (fun _ _=>rfl) (fun p hp=>by simp at hp) (fun p hp=>hp) (fun s=>eff_put _ _ _) (fun s2 A=> ?_) h0
    ·rcases evO_refs hv with⟨u,rfl,hu⟩|e
     ·exact⟨u,v,hx,hu,(a2 j hj).1⟩
     ·have:=(a2 j hj).1;rw[e] at this;simp at this
    ·simp only[opD,evOp,hop,A.evO hx,hv,a3 s2 (A.blk hr hx hv),hti]
  ·cases h
 ·cases h
theorem eff_putRet (s:St) (dst:Option Nat) (r:Ret): ∃δ:Dl,δ.dst=dst∧(∀i x,δ.b i x=x)∧(∀p,δ.add p=true→dropD dst p=true)∧(∀p,δ.drop p=true→dropD dst p=true)∧
  ∀s:St,Eff δ s (s.putRet dst r):=by
 have many:(∀v,r.vals≠[v])→ ∃δ:Dl,δ.dst=dst∧(∀i x,δ.b i x=x)∧(∀p,δ.add p=true→dropD dst p=true)∧(∀p,δ.drop p=true→dropD dst p=true)∧
  ∀s:St,Eff δ s (s.putRet dst r):=by
  intro hne
  have e: ∀s:St,s.putRet dst r=(let st:=s.put dst (.tup r.vals);match dst with
   |some d=> {st with owns:=ownC d r.own++st.owns}
   |none=>st):=by
   intro s
   simp only[St.putRet]
   rcases h:r.vals with _|⟨v,_|⟨u,l⟩⟩
   ·rfl
   ·exact absurd h (hne v)
   ·rfl
  cases dst with
  |none=>exact⟨⟨none,.tup r.vals,fun _ b=>b,dropD none,fun _=>false,0⟩,rfl,fun _ _=>rfl,fun p hp=>by simp at hp,fun p hp=>hp,fun s=>by rw[e];exact eff_put _ _ _⟩
  |some d=>
   refine⟨⟨some d,.tup r.vals,fun _ b=>b,dropD (some d),fun p=>hasPl p (ownC d r.own),0⟩,rfl,fun _ _=>rfl,fun p hp=> ?_,fun p hp=>hp,fun s=> ?_⟩
   ·have: ∀l:List Nat,hasPl p (ownC d l)=true→dropD (some d) p=true:=by
     intro l
     induction l with
     |nil=>intro h;simp[ownC,hasPl] at h
     |cons j l ih=>
      intro h
      simp only[ownC,hasPl_consB,Bool.or_eq_true] at h
      rcases h with h|h
      ·have:=Pl.beq_iff.1 h
       subst this
       simp[dropD,Pl.ofTmp]
      ·exact ih h
    exact this _ hp
   ·rw[e]
    have e1:=eff_put s (some d) (.tup r.vals)
    refine⟨e1.look,e1.blk,e1.len,fun p=> ?_⟩
    simp only[hasPl_append]
    rw[e1.own];simp
 rcases h:r.vals with _|⟨v,_|⟨u,l⟩⟩
 ·exact many (fun v hv=>by rw[h] at hv;cases hv)
 ·refine⟨⟨dst,v,fun _ b=>b,dropD dst,ownP dst (hasNat 0 r.own),0⟩,rfl,fun _ _=>rfl,fun p hp=> ?_,fun p hp=>hp,fun s=> ?_⟩
  ·cases dst with
   |none=>cases hp
   |some d=>
    simp only[ownP,Bool.and_eq_true] at hp
    have:=Pl.beq_iff.1 hp.2
    subst this
    simp[dropD,Pl.ofTmp]
  ·simp only[St.putRet,h];exact eff_putOwn _ _ _ _
 ·exact many (fun v hv=>by rw[h] at hv;cases hv)
theorem noRefs_mem {s:St} {x:Operand}: ∀ {xs:List Operand},noRefs s xs=true→x∈xs→refsO s x=[]
 |y::xs,h,hx=>by
  simp only[noRefs] at h
  split at h
  ·rename_i h1
   rcases List.mem_cons.1 hx with rfl|hx
   ·exact h1
   ·exact noRefs_mem h hx
  ·cases h
theorem noRefs_same {s s2:St}: ∀ {xs:List Operand},(∀t,.tmp t∈xs→look t s2.tmps=look t s.tmps)→noRefs s2 xs=noRefs s xs
 |[],_=>rfl
 |x::xs,h=>by
  have h1:refsO s2 x=refsO s x:=refsO_same fun t ht=>h t (by rw[←ht];exact List.mem_cons_self ..)
  simp only[noRefs,h1,noRefs_same fun t ht=>h t (List.mem_cons_of_mem _ ht)]
theorem firstN_same: ∀ {n:Nat} {a b:List (Option Blk)},(∀i,i<n→getO a i=getO b i)→firstN n a=firstN n b
 |0,a,b,_=>by cases a<;>cases b<;>rfl
 |n+1,a,b,h=>by
  have h0:=h 0 (by omega)
  have tl: ∀(l:List (Option Blk)) (i:Nat),getO l.tail i=getO l (i+1):=fun l i=>by cases l<;>simp[getO]
  have hs: ∀i,i<n→getO a.tail i=getO b.tail i:=fun i hi=>by
   rw[tl,tl];exact h (i+1) (by omega)
  have ih:=firstN_same hs
  have e: ∀l:List (Option Blk),firstN (n+1) l=getO l 0::firstN n l.tail:=fun l=>by cases l<;>rfl
  rw[e,e,h0,ih]
theorem getO_firstN: ∀ {n i:Nat} {a:List (Option Blk)},getO (firstN n a) i=if i<n then getO a i else none
 |0,i,a=>by
  have:firstN 0 a=[]:=by cases a<;>rfl
  rw[this];simp[getO]
 |n+1,i,a=>by
  have e:firstN (n+1) a=getO a 0::firstN n a.tail:=by cases a<;>rfl
  rw[e]
  cases i with
  |zero=>simp[getO]
  |succ i=>
   have:=getO_firstN (n:=n) (i:=i) (a:=a.tail)
   have h2:getO (getO a 0::firstN n a.tail) (i+1)=getO (firstN n a.tail) i:=by simp[getO]
   have h3:getO a.tail i=getO a (i+1):=by cases a<;>simp[getO]
   rw[h2,this,h3]
   by_cases hi:i<n
   ·simp[hi]
   ·simp[hi]
theorem evStill_same: ∀ {xs:List Operand} {ts:List Nat} {s s2:St},(∀t,Operand.tmp t∈xs→look t s2.tmps=look t s.tmps)→evStill C s2 xs ts=evStill C s xs ts
 |[],ts,s,s2,_=>rfl
 |x::xs,ts,s,s2,h=>by
  have e:=evO_same (C:=C) (x:=x) (fun t ht=>h t (by rw[ht];exact List.mem_cons_self ..)) (ts.headD 0)
  simp only[evStill,e,evStill_same (xs:=xs) (fun t ht=>h t (List.mem_cons_of_mem _ ht))]
theorem cong_still {c:Call} (hop:o.op= .call c) (hsc:isStC C.lin c o.dst=true) (h:opD C n i fl o s=some s1):Cong C n i fl o s s1:=by
 have hsO:isSt C.lin o=true:=by simp only[isSt,hop];exact hsc
 obtain⟨f,hc⟩: ∃f,c.callee= .value f:=by
  unfold isStC at hsc
  split at hsc
  ·rename_i hc _;exact⟨_,hc⟩
  ·cases hsc
 have hx: ∀x∈c.args.toList,x∈o.op.operands.toList:=fun x hx=>by simp[hop,Op.operands,Call.operands,hc];right;simpa using hx
 have hf:f∈o.op.operands.toList:=by simp[hop,Op.operands,Call.operands,hc]
 have hr:isRd o=true:=by simp[isRd,hop,hc]
 have hnl:isLoad o=false:=by simp[isLoad,hop]
 have hw:isWr o=false:=isRd_notWr hr
 have hn:isNew o=false:=by simp[isNew,hop]
 have h0:=h
 simp only[opD,hop,hsc] at h
 cases fl with
 |true=>cases h
 |false=>
  simp only at h
  unfold stillOp at h
  split at h
  ·rename_i r hr2
   cases h
   obtain⟨δ,d1,d2,d3,d4,d5⟩:=eff_putRet s o.dst r
   have all: ∀s2,Agree C n o (n+i) s s2→opD C n i false o s2=some ((s2.disown Pl.isB).putRet o.dst r):=fun s2 A=>by
    have e1:firstN n s2.blocks=firstN n s.blocks:=firstN_same fun j hj=>by
     have:=A.sl hsO j hj
     rwa [getB_getO,getB_getO] at this
    have e2:calleeOf s2 f=calleeOf s f:=by
     cases f with
     |tmp t=>simp only[calleeOf,A.tm t hf]
     |_=>rfl
    have e3:evStill C s2 c.args.toList c.argTypes.toList=evStill C s c.args.toList c.argTypes.toList:=evStill_same fun t ht=>A.tm t (hx _ ht)
    have e4:stillRet C (firstN n s2.blocks) s2 c=some r:=by
     rw[←hr2]
     simp only[stillRet,hc,e1,e2,e3]
    simp only[opD,hop,hsc,stillOp,e4]
   refine⟨(⟨none,.any,fun _ b=>b,Pl.isB,fun _=>false,0⟩:Dl).comp δ,⟨?_,fun h3=>(by rw[hr] at h3;cases h3),fun h3=>(by rw[hn] at h3;cases h3),fun _ j=> .inl fun x=> ?_,fun h3=>(by rw[hw] at h3;cases h3),fun h3=>(by rw[hnl] at h3;cases h3),fun _ j x=> ?_,fun j x hx=> ?_,fun p hp=> ?_,fun p hp=> ?_⟩, ?_,fun s2 A=>⟨_,all s2 A, ?_⟩⟩
   ·simp only[Dl.comp,d1];cases o.dst<;>rfl
   ·simp only[Dl.comp,d2]
   ·simp only[Dl.comp,d2]
   ·simpa only[Dl.comp,d2] using hx
   ·simp only[Dl.comp,Bool.false_and,Bool.or_false] at hp
    exact .inl (d3 p hp)
   ·simp only[Dl.comp,Bool.or_eq_true] at hp
    rcases hp with hp|hp
    ·refine .inr (.inr ⟨.inl ⟨hr,hnl,fun h=>by cases h⟩, ?_⟩)
     cases p with
     |b x y=>exact⟨x,y,rfl⟩
     |_=>cases hp
    ·exact .inl (d4 p hp)
   ·exact Eff.comp (.inl rfl) (eff_disown s Pl.isB) (d5 _)
   ·exact Eff.comp (.inl rfl) (eff_disown s2 Pl.isB) (d5 _)
  ·cases h
theorem cong_call {c:Call} {f:Operand} (hop:o.op= .call c) (hc:c.callee= .value f) (h:opD C n i fl o s=some s1):Cong C n i fl o s s1:=by
 cases hsc:isStC C.lin c o.dst with
 |true=>exact cong_still hop hsc h
 |false=>
  have hx: ∀x∈c.args.toList,x∈o.op.operands.toList:=fun x hx=>by simp[hop,Op.operands,Call.operands,hc];right;simpa using hx
  have hf:f∈o.op.operands.toList:=by simp[hop,Op.operands,Call.operands,hc]
  have hr:isRd o=true:=by simp[isRd,hop,hc]
  have ec: ∀s2,Agree C n o (n+i) s s2→calleeOf s2 f=calleeOf s f:=fun s2 A=>by
   cases f with
   |tmp t=>simp only[calleeOf,A.tm t hf]
   |_=>rfl
  have eb: ∀caps s2,Agree C n o (n+i) s s2→byPtr C s2 c.args.toList caps o.dst=byPtr C s c.args.toList caps o.dst:=fun caps s2 A=>by
   have: ∀xs:List Operand,(∀x∈xs,x∈c.args.toList)→anyRef s2 xs=anyRef s xs:=by
    intro xs
    induction xs with
    |nil=>intro _;rfl
    |cons x xs ih=>
     intro hm
     have h1:=ih (fun y hy=>hm y (List.mem_cons_of_mem _ hy))
     cases x with
     |tmp t=>simp only[anyRef,A.tm t (hx _ (hm _ (List.mem_cons_self ..))),h1]
     |_=>exact h1
   simp only[byPtr,this _ (fun _ h=>h)]
  have h0:=h
  simp only[opD,hop,hsc] at h
  split at h
  case h_2=>cases h
  rename_i hnh
  split at h
  ·cases h
  rename_i hcf
  have hdr: ∀st,drawC C n fl st c=true:=fun st=>by simp only[drawC,hc]
  simp only[hdr] at h
  simp only[noHand,hc] at hnh
  simp only[evOp,hop,hc] at h
  split at h
  ·rename_i g caps hg
   rw[hg] at hnh
   simp only[Bool.not_eq_true'] at hnh
   rw[hnh] at h
   simp only at h
   split at h
   ·rename_i vs sm hvs
    obtain⟨l,rfl,a2,a3⟩:=evArgs_same hvs
    simp only[callWith] at h
    split at h
    ·rename_i e1
     split at h
     ·rename_i r e2
      split at h
      ·rename_i e3
       obtain⟨δ,d1,d2,d3,d4,d5⟩:=eff_putRet s o.dst r
       refine cong_frz (l:=l) (f:=fun s=>s.putRet o.dst r) hr (by simp[isLoad,hop]) (by simp[isConv,hop]) (by simp[isSt,hop,hsc]) (fun hfl _=> ?_) (fun j hj=>⟨(a2 j hj).1, ?_⟩) (δ:=δ) d1 d2 d3 d4 d5 (fun s2 A=> ?_) h0
       ·have hnr:noRefs s c.args.toList=true:=by
         simpa[callFl,hc,hfl] using hcf
        cases l with
        |nil=>rfl
        |cons j l=>
         obtain⟨_,t,v,q1,q2,q3⟩:=a2 j (List.mem_cons_self ..)
         have:=noRefs_mem hnr q1
         simp only[refsO,q2] at this
         rw[this] at q3
         cases q3
       ·obtain⟨_,t,v,q1,q2,q3⟩:=a2 j hj
        exact⟨t,v,hx _ q1,q2,q3⟩
       ·have e4:=a3 s2 (fun t ht=>A.tm t (hx _ ht)) (fun t ht v hv i hi=>A.rd hr t (hx _ ht) v hv i hi)
        have e5:callFl fl s2 c=false:=by
         rw[←hcf]
         simp only[callFl,hc,noRefs_same (fun t ht=>A.tm t (hx _ ht))]
        simp only[opD,noHand,evOp,hop,hsc,hc,hdr,ec s2 A,hg,eb caps s2 A,hnh,Bool.not_false,e4,e5,callWith,e1,e2,e3]
      ·cases h
     ·cases h
    ·cases h
   ·cases h
  ·cases h
end Go.VM
set_option linter.unusedSimpArgs false
set_option linter.unusedVariables false
namespace Go.VM
open Go
variable {C : Ctx} {n i : Nat} {fl : Bool} {o : Oper} {s s1 s2 : St}
theorem eff_setB {b:Nat} {B:Blk} {f:Pl→Bool} (hs:(getB s b).isSome=true):Eff ⟨none,.any,fun i x=>if i=b then some B else x,f,fun _=>false,0⟩ s
  { (s.setB b B) with owns:=dropPl f s.owns} where
 look t:=by simp[St.setB]
 blk j:=by
  cases e:getB s b with
  |none=>rw[e] at hs;cases hs
  |some B0=>exact getB_setB e j
 len:=by simp[St.setB]
 own p:=by simp[hasPl_dropPl]
theorem evStore_same {t:Nat} {p v:V} {s' :St} (h:evStore C s t p v=some s'): ∃b off B f,p= .ptr b off∧(getB s b).isSome=true∧(∀q:Pl,f q=true→ ∃j k,q= .b j k)∧
  Eff ⟨none,.any,fun i x=>if i=b then some B else x,f,fun _=>false,0⟩ s s' ∧
  ∀s2:St,(∀B,getB s b=some B→getB s2 b=some B)→ ∃s2',evStore C s2 t p v=some s2' ∧Eff ⟨none,.any,fun i x=>if i=b then some B else x,f,fun _=>false,0⟩ s2 s2' :=by
 simp only[evStore] at h
 split at h
 ·rename_i ti b off new hti hnew
  cases hc:Nat.beq new.length ti.size with
  |false=>rw[hc] at h;cases h
  |true=>
   rw[hc,cond_true] at h
   split at h
   ·rename_i cs hb
    cases hc2:Nat.ble (off+new.length) cs.length with
    |false=>rw[hc2] at h;cases h
    |true=>
     rw[hc2,cond_true] at h
     cases h
     refine⟨b,off,.cells false (splice off new cs),_,rfl,by simp[hb],fun q hq=> ?_,eff_setB (by simp[hb]),fun s2 h2=> ?_⟩
     ·cases q with
      |b j k=>exact⟨j,k,rfl⟩
      |_=>cases hq
     ·have hb2:=h2 _ hb
      refine⟨_,by simp only[evStore,hti,hnew,hc,hb2,hc2,cond_true],eff_setB (by simp[hb2])⟩
   ·rename_i k xs hb
    split at h
    ·rename_i ns hns
     cases hc2:Nat.ble (off+ns.length) xs.length with
     |false=>rw[hc2] at h;cases h
     |true=>
      rw[hc2,cond_true] at h
      cases h
      have e: ∀s:St,(getB s b).isSome=true→Eff ⟨none,.any,fun i x=>if i=b then some (.ints false k (splice off ns xs)) else x,fun _=>false,fun _=>false,0⟩ s (s.setB b (.ints false k (splice off ns xs))):=by
       intro s hs
       have:=eff_setB (B:= .ints false k (splice off ns xs)) (f:=fun _=>false) hs
       exact⟨this.look,this.blk,this.len,fun p=>by simp[St.setB]⟩
      refine⟨b,off,.ints false k (splice off ns xs),fun _=>false,rfl,by simp[hb],fun q hq=>(by cases hq),e s (by simp[hb]),fun s2 h2=> ?_⟩
      have hb2:=h2 _ hb
      exact⟨_,by simp only[evStore,hti,hnew,hc,hb2,hns,hc2,cond_true],e s2 (by simp[hb2])⟩
    ·cases h
   ·cases h
 ·cases h
theorem cong_store {t:TypeId} {x y:Operand} (hop:o.op= .store t x y) (h:opD C n i fl o s=some s1):Cong C n i fl o s s1:=by
 have hx:x∈o.op.operands.toList:=by simp[hop,Op.operands]
 have hy:y∈o.op.operands.toList:=by simp[hop,Op.operands]
 have hw:isWr o=true:=by simp[isWr,hop]
 have hr:isRd o=false:=by simp[isRd,hop]
 have hn:isNew o=false:=by simp[isNew,hop]
 have h0:=h
 simp only[opD,hop] at h
 split at h
 ·cases h
 ·rename_i hfl
  simp only[evOp,hop] at h
  split at h
  ·rename_i p v hp hv
   split at h
   ·rename_i sm hst
    obtain⟨b,off,B,f,rfl,hsome,hf,e1,e2⟩:=evStore_same hst
    obtain⟨u,rfl,hu⟩: ∃u,x= .tmp u∧look u s.tmps=some (.ptr b off):=by
     rcases evO_refs hp with h|h
     ·exact h
     ·simp[refs] at h
    have fwr: ∀δ:Dl,(∀j x,j≠b→δ.b j x=x)→isWr o=true→ ∀j,(∀x,δ.b j x=x)∨((getB s j).isSome=true∧(fl=true→isNewB C n j=true)):=by
     intro δ hδ _ j
     by_cases hj:j=b
     ·subst hj
      refine .inr ⟨hsome,fun hf=> ?_⟩
      subst hf
      simp only[refsO,hu,refs,allGe,Bool.true_and,Bool.not_eq_false'] at hfl
      cases e:isNewB C n j with
      |true=>rfl
      |false=>rw[e] at hfl;cases hfl
     ·exact .inl fun x=>hδ j x hj
    have efl: ∀s2,Agree C n o (n+i) s s2→refsO s2 (.tmp u)=refsO s (.tmp u):=fun s2 A=>refsO_same fun t ht=>A.tm t (by rw[←ht];exact hx)
    have ewr: ∀s2,Agree C n o (n+i) s s2→ ∀B,getB s b=some B→getB s2 b=some B:=fun s2 A B hB=>A.wr u (by simp[wT,hop]) _ hu b (by simp[refs]) B hB
    cases hsl:isSl v with
    |false=>
     have fin: ∀s2,Agree C n o (n+i) s s2→ ∃s2',opD C n i fl o s2=some s2' ∧Eff (Dl.comp ⟨none,.any,fun i x=>if i=b then some B else x,f,fun _=>false,0⟩ ⟨o.dst,.skip,fun _ b=>b,dropD o.dst,fun _=>false,0⟩) s2 s2' :=by
      intro s2 A
      obtain⟨sm2,g1,g2⟩:=e2 s2 (ewr s2 A)
      refine⟨_, ?_,Eff.comp (.inl rfl) g2 (eff_put sm2 o.dst .skip)⟩
      simp only[opD,hop,efl s2 A,hfl,evOp,A.evO hx,hp,A.evO hy,hv,g1,hsl]
     obtain⟨s',g1,g2⟩:=fin s (Agree.refl C n o _ s)
     rw[h0] at g1;cases g1
     refine⟨_,⟨?_,fun _ h3=>(by rw[hw] at h3;cases h3),fun h3=>(by rw[hn] at h3;cases h3),fun h3=>(by rw[hr] at h3;cases h3),fwr _ (fun j x hj=>by simp[Dl.comp,hj]),fun h3=>(by simp[isLoad,hop] at h3),fun h3=>absurd h3 (no_cv hr),fun j x hx=>(by simp only[Dl.comp];split<;>first|rfl|exact hx),fun p hp=> ?_,fun p hp=> ?_⟩,g2,fin⟩
     ·simp only[Dl.comp];cases o.dst<;>rfl
     ·simp[Dl.comp] at hp
     ·simp only[Dl.comp,Bool.or_eq_true] at hp
      rcases hp with hp|hp
      ·exact .inr (.inr ⟨.inr (.inl hw),hf p hp⟩)
      ·exact .inl hp
    |true=>
     cases y with
     |tmp z=>
      have huz:uses C.lin o (.t z)=true:=by simp[uses,usesL,usesT,hop,tmpsL]
      have hfz:f (.t z)=false:=by
       cases e:f (.t z) with
       |false=>rfl
       |true=>obtain⟨j,k,h⟩:=hf _ e;cases h
      let d1:Dl:=⟨none,.any,fun i x=>if i=b then some B else x,f,fun _=>false,0⟩
      let d2:Dl:=⟨none,.any,fun _ b=>b,Pl.beq (.t z),fun r=>hasPl (.t z) s.owns && Pl.beq (.b b off) r,0⟩
      let d3:Dl:=⟨o.dst,.skip,fun _ b=>b,dropD o.dst,fun _=>false,0⟩
      have fin: ∀s2,Agree C n o (n+i) s s2→ ∃s2',opD C n i fl o s2=some s2' ∧Eff ((d1.comp d2).comp d3) s2 s2' :=by
       intro s2 A
       obtain⟨sm2,g1,g2⟩:=e2 s2 (ewr s2 A)
       have eg:Eff d2 sm2 (sm2.give (.t z) (.b b off)):=by
        have:=eff_give sm2 (.t z) (.b b off)
        have e3:hasPl (.t z) sm2.owns=hasPl (.t z) s.owns:=by rw[g2.own,A.us _ huz];simp[hfz]
        rw[e3] at this
        exact this
       refine⟨_, ?_,Eff.comp (.inl rfl) (Eff.comp (.inl rfl) g2 eg) (eff_put _ o.dst .skip)⟩
       simp only[opD,hop,efl s2 A,hfl,evOp,A.evO hx,hp,A.evO hy,hv,g1,hsl]
      obtain⟨s',g1,g2⟩:=fin s (Agree.refl C n o _ s)
      rw[h0] at g1;cases g1
      refine⟨_,⟨?_,fun _ h3=>(by rw[hw] at h3;cases h3),fun h3=>(by rw[hn] at h3;cases h3),fun h3=>(by rw[hr] at h3;cases h3),fwr _ (fun j x hj=>by simp[Dl.comp,d1,d2,d3,hj]),fun h3=>(by simp[isLoad,hop] at h3),fun h3=>absurd h3 (no_cv hr),fun j x hx=>(by simp only[Dl.comp,d1,d2,d3];split<;>first|rfl|exact hx),fun p hp=> ?_,fun p hp=> ?_⟩,g2,fin⟩
      ·simp only[Dl.comp,d1,d2,d3];cases o.dst<;>rfl
      ·simp only[Dl.comp,d1,d2,d3,Bool.false_and,Bool.or_false,Bool.false_or,Bool.and_eq_true] at hp
       exact .inr ⟨hw,b,off,(Pl.beq_iff.1 hp.1.2).symm⟩
      ·simp only[Dl.comp,d1,d2,d3,Bool.or_eq_true] at hp
       rcases hp with(hp|hp)|hp
       ·exact .inr (.inr ⟨.inr (.inl hw),hf p hp⟩)
       ·have:=Pl.beq_iff.1 hp
        subst this
        exact .inr (.inl huz)
       ·exact .inl hp
     |_=>
      have fin: ∀s2,Agree C n o (n+i) s s2→ ∃s2',opD C n i fl o s2=some s2' ∧Eff (Dl.comp ⟨none,.any,fun i x=>if i=b then some B else x,f,fun _=>false,0⟩ ⟨o.dst,.skip,fun _ b=>b,dropD o.dst,fun _=>false,0⟩) s2 s2' :=by
       intro s2 A
       obtain⟨sm2,g1,g2⟩:=e2 s2 (ewr s2 A)
       refine⟨_, ?_,Eff.comp (.inl rfl) g2 (eff_put sm2 o.dst .skip)⟩
       simp only[opD,hop,efl s2 A,hfl,evOp,A.evO hx,hp,A.evO hy,hv,g1,hsl]
      obtain⟨s',g1,g2⟩:=fin s (Agree.refl C n o _ s)
      rw[h0] at g1;cases g1
      refine⟨_,⟨?_,fun _ h3=>(by rw[hw] at h3;cases h3),fun h3=>(by rw[hn] at h3;cases h3),fun h3=>(by rw[hr] at h3;cases h3),fwr _ (fun j x hj=>by simp[Dl.comp,hj]),fun h3=>(by simp[isLoad,hop] at h3),fun h3=>absurd h3 (no_cv hr),fun j x hx=>(by simp only[Dl.comp];split<;>first|rfl|exact hx),fun p hp=> ?_,fun p hp=> ?_⟩,g2,fin⟩
      ·simp only[Dl.comp];cases o.dst<;>rfl
      ·simp[Dl.comp] at hp
      ·simp only[Dl.comp,Bool.or_eq_true] at hp
       rcases hp with hp|hp
       ·exact .inr (.inr ⟨.inr (.inl hw),hf p hp⟩)
       ·exact .inl hp
   ·cases h
  ·cases h
theorem srcNums_same {k:IntKind} {x:V} {ys:List Int} (h:srcNums s k x=some ys) (hb: ∀i∈refs x,BlkEq s s2 i):srcNums s2 k x=some ys:=by
 cases x with
 |mu m off len cap sz=>
  simp only[srcNums] at h⊢
  split at h
  ·rename_i fz k' xs e
   obtain⟨_,h2⟩:=(hb m (by simp[refs])).ints e
   simp only[h2];exact h
  ·cases h
 |d y=>cases y<;>exact h
 |_=>exact h
theorem srcSl_same {k:Nat} {x:V} {ys:List (List D)} (h:srcSl s k x=some ys) (hb: ∀i∈refs x,BlkEq s s2 i):srcSl s2 k x=some ys:=by
 cases x with
 |mu m off len cap sz=>
  simp only[srcSl] at h⊢
  split at h
  ·rename_i fz cs e
   obtain⟨_,h2⟩:=(hb m (by simp[refs])).cells e
   simp only[h2];exact h
  ·cases h
 |d y=>cases y<;>exact h
 |_=>exact h
theorem evAppend_same {t:Nat} {own:Bool} {b x:V} {r:D} (h:evAppend C s t own b x=some r) (hb: ∀i∈refs x,BlkEq s s2 i):evAppend C s2 t own b x=some r:=by
 simp only[evAppend] at h⊢
 split at h
 ·rename_i e' he'
  split at h
  ·rename_i j hj
   split at h
   ·rename_i k nl xs
    cases hc:((own||nl) && Nat.beq j.size 1) with
    |false=>rw[hc] at h;cases h
    |true=>
     rw[hc,cond_true] at h
     split at h
     ·rename_i ys hys
      simp only[hj,hc,cond_true,srcNums_same hys hb];exact h
     ·cases h
   ·rename_i sz nl xs
    cases hc:((own||nl) && Nat.beq j.size sz && Nat.blt 0 sz) with
    |false=>rw[hc] at h;cases h
    |true=>
     rw[hc,cond_true] at h
     split at h
     ·rename_i ys hys
      simp only[hj,hc,cond_true,srcSl_same hys hb];exact h
     ·cases h
   ·cases h
  ·cases h
 ·cases h
theorem evO_mu {t:Nat} {x:Operand} {i off len cap sz:Nat} (h:evO C s t x=some (.mu i off len cap sz)):isMuO s x=true:=by
 cases x with
 |tmp u=>
  have:look u s.tmps=some (.mu i off len cap sz):=h
  simp only[isMuO,this]
 |const v=>
  simp only[evO] at h
  split at h
  ·cases h
  ·cases h
 |global g=>cases h
 |func f=>cases h
theorem baseD_not {t:Nat} {x:Operand} {v:V} (h:evO C s t x=some v) (hm:isMuO s x=false) (s2:St):baseD C s2 x v=some (isTmp x && hasPl (plOf x) s2.owns,v,s2):=by
 cases v with
 |mu i off len cap sz=>rw[evO_mu h] at hm;cases hm
 |_=>rfl
theorem srcNums_d {k:IntKind} {x:V} (s s2:St) (h:refs x=[]):srcNums s2 k x=srcNums s k x:=by
 cases x with
 |mu i off len cap sz=>cases h
 |d x=>cases x<;>rfl
 |_=>rfl
theorem eff_row {b:Nat} {B:Blk} {dst:Option Nat} {v:V} (hs:(getB s b).isSome=true):Eff (Dl.comp ⟨none,.any,fun i x=>if i=b then some B else x,fun _=>false,fun _=>false,0⟩ ⟨dst,v,fun _ b=>b,dropD dst,fun _=>false,0⟩) s ((s.setB b B).put dst v):=by
 have:=eff_setB (B:=B) (f:=fun _=>false) hs
 have e:Eff ⟨none,.any,fun i x=>if i=b then some B else x,fun _=>false,fun _=>false,0⟩ s (s.setB b B):=⟨this.look,this.blk,this.len,fun p=>by simp[St.setB]⟩
 exact Eff.comp (.inl rfl) e (eff_put _ dst v)
theorem cong_row {b u:Nat} {B:Blk} {v r:V} (hw:isWr o=true) (hwt:wT o=some u) (hu:look u s.tmps=some v) (hb:refs v=[b]) (hl:isLoad o=false) (hs:(getB s b).isSome=true) (hfl:fl=true→isNewB C n b=true)
  (h: ∀s2,Agree C n o (n+i) s s2→opD C n i fl o s2=some ((s2.setB b B).put o.dst r)) (h0:opD C n i fl o s=some s1):Cong C n i fl o s s1:=by
 have hr:isRd o=false:=by
  cases e:isRd o with
  |false=>rfl
  |true=>rw[isRd_notWr e] at hw;cases hw
 have hn:isNew o=false:=by
  cases hop:o.op<;>simp[isNew,isWr,hop] at hw⊢
 have g1:=h s (Agree.refl C n o _ s)
 rw[h0] at g1;cases g1
 refine⟨_,⟨?_,fun _ h3=>(by rw[hw] at h3;cases h3),fun h3=>(by rw[hn] at h3;cases h3),fun h3=>(by rw[hr] at h3;cases h3),fun _ j=> ?_,fun h3=>(by rw[hl] at h3;cases h3),fun h3=>absurd h3 (no_cv hr),fun j x hx=> ?_,fun p hp=> ?_,fun p hp=> ?_⟩,eff_row hs,fun s2 A=>⟨_,h s2 A,eff_row ?_⟩⟩
 ·simp only[Dl.comp];cases o.dst<;>rfl
 ·by_cases hj:j=b
  ·subst hj;exact .inr ⟨hs,hfl⟩
  ·exact .inl fun x=>by simp[Dl.comp,hj]
 ·simp only[Dl.comp];split
  ·rfl
  ·exact hx
 ·simp[Dl.comp] at hp
 ·simp only[Dl.comp,Bool.or_eq_true] at hp
  rcases hp with hp|hp
  ·cases hp
  ·exact .inl hp
 ·cases e:getB s b with
  |none=>rw[e] at hs;cases hs
  |some B0=>
   have:=A.wr u hwt v hu b (by rw[hb];simp) B0 e
   rw[this];rfl
theorem cong_builtin {c:Call} {b:Builtin} (hop:o.op= .call c) (hc:c.callee= .builtin b) (h:opD C n i fl o s=some s1):Cong C n i fl o s s1:=by
 have hx: ∀x∈c.args.toList,x∈o.op.operands.toList:=fun x hx=>by simp[hop,Op.operands,Call.operands,hc];simpa using hx
 have eo: ∀st:St,opD C n i fl o st=(match drawC C n fl st c with|true=>evBuiltin C st o.dst b c.args.toList c.argTypes.toList|false=>none):=fun st=>by
  have e:isStC C.lin c o.dst=false:=by simp only[isStC,hc]
  simp only[opD,noHand,callFl,evOp,hop,hc,e]
  cases drawC C n fl st c<;>rfl
 have h0:=h
 rw[eo] at h
 split at h
 rotate_left
 ·cases h
 rename_i hdr
 unfold evBuiltin at h
 split at h
 ·rename_i x t ha ht
  have hx1:=hx x (by rw[ha];simp)
  have hd: ∀st,drawC C n fl st c=true:=fun st=>by simp only[drawC,hc]
  split at h
  ·rename_i v hv
   split at h
   ·rename_i k hk
    refine cong_val (.d (.int .i64 k)) (fun s2 A=> ?_) h0
    rw[eo,ha,ht,hd]
    simp only[evBuiltin,A.evO hx1,hv,hk]
   ·cases h
  ·cases h
 ·rename_i x y ha
  have hx1:=hx x (by rw[ha];simp)
  have hx2:=hx y (by rw[ha];simp)
  have hd: ∀st,drawC C n fl st c=true:=fun st=>by simp only[drawC,hc]
  split at h
  ·rename_i k1 a1 k2 b1 e1 e2
   split at h
   ·rename_i hk
    refine cong_val (.d (.int k1 (minI a1 b1))) (fun s2 A=> ?_) h0
    rw[eo,ha,hd]
    simp only[evBuiltin,A.evO hx1,A.evO hx2,e1,e2,hk]
   ·cases h
  ·cases h
 ·rename_i x y ha
  have hx1:=hx x (by rw[ha];simp)
  have hx2:=hx y (by rw[ha];simp)
  have hd: ∀st,drawC C n fl st c=true:=fun st=>by simp only[drawC,hc]
  split at h
  ·rename_i k1 a1 k2 b1 e1 e2
   split at h
   ·rename_i hk
    refine cong_val (.d (.int k1 (maxI a1 b1))) (fun s2 A=> ?_) h0
    rw[eo,ha,hd]
    simp only[evBuiltin,A.evO hx1,A.evO hx2,e1,e2,hk]
   ·cases h
  ·cases h
 ·rename_i x y t u ha ht
  have hx1:=hx x (by rw[ha];simp)
  have hx2:=hx y (by rw[ha];simp)
  have hr:isRd o=true:=by simp[isRd,hop,hc]
  have hw:isWr o=false:=isRd_notWr hr
  have hn:isNew o=false:=by simp[isNew,hop]
  have hmu:isMuO s x=false:=by
   simp only[drawC,hc,ha,Bool.not_eq_true'] at hdr
   exact hdr
  have hmuS: ∀s2,Agree C n o (n+i) s s2→isMuO s2 x=false:=fun s2 A=>by
   rw[←hmu]
   cases x with
   |tmp u=>simp only[isMuO,A.tm u hx1]
   |_=>rfl
  split at h
  ·rename_i v w e1 e2
   split at h
   ·cases h
   ·rename_i hsrc
    rw[baseD_not e1 hmu] at h
    simp only at h
    split at h
    ·rename_i r hr'
     obtain⟨z,hz⟩: ∃z,plOf x= .t z:=by cases x<;>exact⟨_,rfl⟩
     have hplu:uses C.lin o (plOf x)=true:=by
      cases x<;>simp[uses,plOf,usesL,usesT,hop,hc,ha]
     have eown: ∀s2,Agree C n o (n+i) s s2→(isTmp x && hasPl (plOf x) s2.owns)=(isTmp x && hasPl (plOf x) s.owns):=by
      intro s2 A
      rw[A.us _ hplu]
     have key: ∀s2:St,Eff (Dl.comp ⟨none,.any,fun _ b=>b,Pl.beq (plOf x),fun _=>false,0⟩ ⟨o.dst,.d r,fun _ b=>b,dropD o.dst,ownP o.dst true,0⟩) s2
       (((s2.disown (Pl.beq (plOf x))).put o.dst (.d r)).own o.dst true):=fun s2=>Eff.comp (.inl rfl) (eff_disown _ _) (eff_putOwn _ _ _ _)
     have fin: ∀s2,Agree C n o (n+i) s s2→opD C n i fl o s2=some (((s2.disown (Pl.beq (plOf x))).put o.dst (.d r)).own o.dst true):=by
      intro s2 A
      have hd2:drawC C n fl s2 c=true:=by simp only[drawC,hc,ha,hmuS s2 A,Bool.not_false]
      rw[eo,hd2,ha,ht]
      have e1' :evO C s2 t x=some v:=by rw[A.evO hx1];exact e1
      simp only[evBuiltin,A.evO hx1,A.evO hx2,e1,e2,hsrc,baseD_not e1' (hmuS s2 A),eown s2 A,evAppend_same hr' (A.blk hr hx2 e2)]
     have:=fin s (Agree.refl C n o _ s)
     rw[h0] at this;cases this
     refine⟨_,fits_id ?_ (fun _ _=>rfl) (fun p hp=> ?_) (fun p hp=> ?_),key s,fun s2 A=>⟨_,fin s2 A,key s2⟩⟩
     ·simp only[Dl.comp];cases o.dst<;>rfl
     ·simp only[Dl.comp,Bool.false_and,Bool.or_false] at hp
      cases hd:o.dst with
      |none=>rw[hd] at hp;cases hp
      |some d=>
       rw[hd] at hp
       simp only[ownP,Bool.true_and] at hp
       have:=Pl.beq_iff.1 hp
       subst this
       simp[dropD,Pl.ofTmp]
     ·simp only[Dl.comp,Bool.or_eq_true] at hp
      rcases hp with hp|hp
      ·have:=Pl.beq_iff.1 hp
       subst this
       exact .inr hplu
      ·exact .inl hp
    ·cases h
  ·cases h
 ·rename_i x y t u ha ht
  have hx1:=hx x (by rw[ha];simp)
  have hx2:=hx y (by rw[ha];simp)
  have hw:isWr o=true:=by simp[isWr,hop,hc]
  simp only[drawC,hc,ha,Bool.and_eq_true] at hdr
  obtain⟨hnr,hfl⟩:=hdr
  split at h
  ·rename_i b off len cap sz w e1 e2
   split at h
   ·rename_i hsrc hrow
    split at h
    ·rename_i k xs hB
     split at h
     ·rename_i ys hys
      cases hck:Nat.ble (off+(ys.take len).length) xs.length && Nat.beq sz 1 with
      |false=>rw[hck] at h;cases h
      |true=>
       rw[hck] at h
       simp only[cond_true] at h
       obtain⟨v,rfl,hu⟩: ∃v,x= .tmp v∧look v s.tmps=some (.mu b off len cap sz):=by
        rcases evO_refs e1 with h|h
        ·exact h
        ·simp[refs] at h
       have hwr:refs w=[]:=by
        rcases evO_refs e2 with⟨q,rfl,hq⟩|h
        ·simp only[noRefs,refsO,hq] at hnr
         split at hnr
         ·assumption
         ·cases hnr
        ·exact h
       have hwt:wT o=some v:=by simp[wT,hop,hc,ha]
       have efl: ∀s2,Agree C n o (n+i) s s2→drawC C n fl s2 c=true:=fun s2 A=>by
        have h1:refsO s2 (.tmp v)=refsO s (.tmp v):=refsO_same fun t ht=>A.tm t (by rw[←ht];exact hx1)
        have h2:noRefs s2 [y]=noRefs s [y]:=noRefs_same fun t ht=>A.tm t (by
         simp only[List.mem_singleton] at ht
         rw[ht];exact hx2)
        simp only[drawC,hc,ha,h1,h2,hnr,hfl,Bool.and_self]
       refine cong_row (b:=b) (B:= .ints false k (splice off (ys.take len) xs)) (r:= .d (.int .i64 (ys.take len).length)) hw hwt hu (by simp[refs]) (by simp[isLoad,hop]) (by simp[hB]) (fun hf=> ?_) (fun s2 A=> ?_) h0
       ·subst hf
        simp only[refsO,hu,refs,allGe,Bool.true_and,Bool.not_not] at hfl
        cases e:isNewB C n b with
        |true=>rfl
        |false=>rw[e] at hfl;cases hfl
       ·have hB2:=A.wr v hwt _ hu b (by simp[refs]) _ hB
        rw[eo,efl s2 A,ha,ht]
        simp only[evBuiltin,A.evO hx1,A.evO hx2,e1,e2,hsrc,hrow,hB2,srcNums_d s s2 hwr,hys,hck,cond_true]
     ·cases h
    ·cases h
   ·cases h
  ·cases h
 ·rename_i x t ha ht
  have hx1:=hx x (by rw[ha];simp)
  have hw:isWr o=true:=by simp[isWr,hop,hc]
  simp only[drawC,hc,ha] at hdr
  split at h
  ·rename_i b off len cap sz e1
   split at h
   ·rename_i hrow
    split at h
    ·rename_i k xs hB
     cases hck:Nat.ble (off+len) xs.length && Nat.beq sz 1 && isRowK C t k with
     |false=>rw[hck] at h;cases h
     |true=>
      rw[hck] at h
      simp only[cond_true] at h
      obtain⟨v,rfl,hu⟩: ∃v,x= .tmp v∧look v s.tmps=some (.mu b off len cap sz):=by
       rcases evO_refs e1 with h|h
       ·exact h
       ·simp[refs] at h
      have hwt:wT o=some v:=by simp[wT,hop,hc,ha]
      have efl: ∀s2,Agree C n o (n+i) s s2→drawC C n fl s2 c=true:=fun s2 A=>by
       have h1:refsO s2 (.tmp v)=refsO s (.tmp v):=refsO_same fun t ht=>A.tm t (by rw[←ht];exact hx1)
       simp only[drawC,hc,ha,h1,hdr]
      refine cong_row (b:=b) (B:= .ints false k (splice off (List.replicate len 0) xs)) (r:= .tup []) hw hwt hu (by simp[refs]) (by simp[isLoad,hop]) (by simp[hB]) (fun hf=> ?_) (fun s2 A=> ?_) h0
      ·subst hf
       simp only[refsO,hu,refs,allGe,Bool.true_and,Bool.not_not] at hdr
       cases e:isNewB C n b with
       |true=>rfl
       |false=>rw[e] at hdr;cases hdr
      ·have hB2:=A.wr v hwt _ hu b (by simp[refs]) _ hB
       rw[eo,efl s2 A,ha,ht]
       simp only[evBuiltin,A.evO hx1,e1,hrow,hB2,hck,cond_true]
    ·cases h
   ·cases h
  ·cases h
 ·cases h
theorem cong_arrayAt {t:TypeId} {x:Operand} (hop:o.op= .sliceToArrayPointer t x) (h:opD C n i fl o s=some s1):Cong C n i fl o s s1:=by
 have hx:x∈o.op.operands.toList:=by simp[hop,Op.operands]
 have h0:=h
 simp only[opD,evOp,hop] at h
 split at h
 ·rename_i a ha
  split at h
  ·rename_i r hr
   refine cong_val r (fun s2 A=> ?_) h0
   simp only[opD,evOp,hop,A.evO hx,ha,hr]
  ·cases h
 ·cases h
theorem opD_cong (h:opD C n i fl o s=some s1):Cong C n i fl o s s1:=by
 cases hop:o.op with
 |move x=>exact cong_move hop h
 |assign x=>exact cong_assign hop h
 |pick c x y=>exact cong_pick hop h
 |alloc e=>exact cong_alloc hop h
 |box e x=>exact cong_box hop h
 |build t ps=>exact cong_build hop h
 |buildSlice t k ps=>exact cong_buildSlice hop h
 |load t x=>exact cong_load hop h
 |store t x y=>exact cong_store hop h
 |nilCheck x=>exact cong_nilCheck hop h
 |binOp op t x y u=>exact cong_binOp hop h
 |unOp op t x=>exact cong_unOp hop h
 |convert a b x=>exact cong_convert hop h
 |makeInterface t x=>exact cong_makeInterface hop h
 |makeFunc f first caps=>
  cases f with
  |func f=>exact cong_makeFunc hop h
  |_=>simp[opD,evOp,hop] at h
 |makeSlice t l c=>exact cong_makeSlice hop h
 |slice t x lo hi mx=>exact cong_slice hop h
 |fieldAddr t x f=>exact cong_fieldAddr hop h
 |field t x f=>exact cong_field hop h
 |indexAddr t x y=>exact cong_indexAddr hop h
 |index t x y=>exact cong_index hop h
 |extract x j=>exact cong_extract hop h
 |sliceToArrayPointer t x=>exact cong_arrayAt hop h
 |call c=>
  cases hc:c.callee with
  |builtin b=>exact cong_builtin hop hc h
  |value f=>exact cong_call hop hc h
  |invoke r m=>
   have e:isStC C.lin c o.dst=false:=by simp only[isStC,hc]
   simp only[opD,evOp,hop,hc,callFl,e] at h
   split at h
   ·cases hd:drawC C n fl s c<;>rw[hd] at h<;>cases h
   ·cases h
 |_=>simp[opD,evOp,hop] at h
end Go.VM
