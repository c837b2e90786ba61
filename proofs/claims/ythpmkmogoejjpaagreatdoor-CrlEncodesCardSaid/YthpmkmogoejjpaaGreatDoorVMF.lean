/- The machine over values: what is made data. -/
import Derived.Test.YthpmkmogoejjpaaGreatDoorVME
set_option linter.unusedSimpArgs false
set_option linter.unusedVariables false
namespace Go.VM
open Go
variable {P : Program} {C : Ctx} {st st' : St} {a : Act} {w : World} {own : Own} {β : Nat → Option Nat}
variable {o : Oper} {next : Act → World → Prop} {Q : Exit → Act → World → Prop}
theorem ext_release (w:World) (own:Own) (b:Nat) (hb: ∀n,own b≠some (.far,n)):Ext w own w (own.set b none) where
 os:=rfl
 tape:=rfl
 output:=rfl
 size:=Nat.le_refl _
 free c _ h:=⟨rfl,by simp only[Own.set];split<;>simp_all⟩
 part c ow n _ h:=⟨fun _ _=>rfl,fun ow' n' h' =>by
  simp only[Own.set] at h'
  split at h'
  ·cases h'
  ·rw[h] at h';cases h';exact Nat.le_refl _⟩
 wide:=Wide.refl w
 far c n h:=⟨rfl,by
  have:c≠b:=fun e=>hb n (by rw[←e];exact h)
  simp[Own.set,this,h]⟩
theorem own_blk {i b:Nat} {B:Blk} (h:BlkRel w own β i b B):own b=none∨own b=some (.bl i,0):=by
 cases h with
 |cells fz _ _ _ _ _ _ _ ho=>cases fz<;>simp at ho<;>simp[ho]
 |ints fz _ _ _ _ _ _ _ ho=>cases fz<;>simp at ho<;>simp[ho]
theorem length_freeze (st:St) (i:Nat):(st.freeze i).blocks.length=st.blocks.length:=by
 unfold St.freeze;split<;>simp
theorem tmps_freeze (st:St) (i:Nat):(st.freeze i).tmps=st.tmps:=by
 unfold St.freeze;split<;>rfl
theorem getB_freeze {i:Nat} {B:Blk} (h:getB st i=some B) (j:Nat):getB (st.freeze i) j=if j=i then some B.freeze else getB st j:=by
 have:=getB_setB (B' :=B.freeze) h j
 unfold St.freeze
 rw[h]
 exact this
theorem Rel.freeze (R:Rel C st a w own β) {i b:Nat} {B:Blk} (hB:getB st i=some B) (hb:β i=some b):
  Rel C (st.freeze i) a w (own.set b none) β∧Ext w own w (own.set b none):=by
 obtain⟨b',hb',hrel⟩:=R.blocks i B hB
 rw[hb] at hb';cases hb'
 have E:=ext_release w own b (fun n h=>by rcases own_blk hrel with h5|h5<;>rw[h] at h5<;>simp at h5)
 have hg:=getB_freeze hB
 have hown:(st.freeze i).owns=dropPl (Pl.ofBlk i) st.owns:=by unfold St.freeze;rw[hB]
 refine⟨⟨R.defers, ?_, ?_, ?_, ?_, ?_, ?_, ?_, ?_⟩,E⟩
 ·intro t x h
  rw[tmps_freeze] at h
  exact(R.tmps t x h).mono E.sub E.wide (fun _ _ h=>h)
 ·intro j B' h
  rw[hg j] at h
  by_cases ej:j=i
  ·subst ej
   rw[if_pos rfl] at h;cases h
   refine⟨b,hb, ?_⟩
   cases hrel with
   |cells fz cs arr e h1 h2 h3 h4 h5=>exact .cells true cs arr e h1 h2 h3 (fun j x hx=>(h4 j x hx).mono E.sub E.wide (fun _ _ h=>h)) (by simp[Own.set])
   |ints fz k xs arr e h1 h2 h3 h5=>exact .ints true k xs arr e h1 h2 h3 (by simp[Own.set])
  ·rw[if_neg ej] at h
   obtain⟨c,h1,h2⟩:=R.blocks j B' h
   refine⟨c,h1,h2.mono E.sub E.wide (fun _ _ h=>h) rfl ?_⟩
   simp only[Own.set]
   split
   ·rename_i e
    subst e
    rcases own_blk h2 with h3|h3
    ·exact h3.symm
    ·rcases own_blk hrel with h4|h4
     ·exact h4.symm
     ·rw[h3] at h4;simp at h4;exact absurd h4 ej
   ·rfl
 ·intro j hj;rw[length_freeze] at hj;exact R.fresh j hj
 ·intro j hj h
  rw[length_freeze] at hj
  rw[hg j] at h
  by_cases ej:j=i
  ·rw[if_pos ej] at h;cases h
  ·rw[if_neg ej] at h;exact R.gone j hj h
 ·intro p hp x v hv
  rw[hown] at hp
  obtain⟨hp1,hp2⟩:=hasPl_drop hp
  have hv' :ValAt st a w β p x v:=by
   cases p with
   |t t=>simp only[ValAt,tmps_freeze] at hv;exact hv
   |c t j=>simp only[ValAt,tmps_freeze] at hv;exact hv
   |b k j=>
    obtain⟨fz,cs,c,h1,h2,h3,h4⟩:=hv
    have ek:k≠i:=fun e=>by simp[Pl.ofBlk,e] at hp2
    rw[hg k,if_neg ek] at h1
    exact⟨fz,cs,c,h1,h2,h3,h4⟩
  intro sz hsz
  rcases R.owns p hp1 x v hv' sz hsz with h0|⟨c,off,len,cap,h1,h2⟩
  ·exact .inl h0
  ·refine .inr ⟨c,off,len,cap,h1, ?_⟩
   rcases h2 with h2|⟨h2,h3,h4⟩
   ·exact .inl h2
   ·refine .inr ⟨h2, ?_,h4⟩
    simp only[Own.set]
    split
    ·rename_i e
     subst e
     rcases own_blk hrel with h5|h5<;>rw[h3] at h5<;>simp at h5
    ·exact h3
 ·intro k j h
  rw[hown] at h
  obtain⟨B1,h1⟩:=R.ob k j (hasPl_drop h).1
  rw[hg k]
  by_cases ek:k=i
  ·exact⟨B.freeze,by simp[ek]⟩
  ·exact⟨B1,by simp[ek,h1]⟩
 ·intro c r h
  simp only[Own.set] at h
  split at h
  ·cases h
  ·exact R.plain c r h
 ·exact fun g cs h=>(R.glob g cs h).mono E.sub
theorem chunk_get {α:Type} (sz:Nat): ∀(n:Nat) (l:List α) (i:Nat) (c:List α),(chunk sz n l)[i]? =some c→i<n∧c=(l.drop (i*sz)).take sz
 |0,l,i,c,h=>by simp[chunk] at h
 |n+1,l,0,c,h=>by simp[chunk] at h;simp[h]
 |n+1,l,i+1,c,h=>by
  simp only[chunk,List.getElem?_cons_succ] at h
  obtain⟨h1,h2⟩:=chunk_get sz n (l.drop sz) i c h
  refine⟨by omega, ?_⟩
  rw[h2,List.drop_drop]
  congr 2
  rw[Nat.succ_mul];omega
theorem chunk_length {α:Type} (sz:Nat): ∀(n:Nat) (l:List α),(chunk sz n l).length=n
 |0,_=>rfl
 |n+1,l=>by simp[chunk,chunk_length sz n]
theorem fc_block {b:Nat} {arr:Array Value} {e:TypeId} (hh:w.heap[b]? =some (.cells arr e (0,0))) (ho:own b=none) {j:Nat} (hj:j<arr.size) (h1:(arr.getD j undef).oneCell' =true):
  Fc w own b j (arr.getD j undef):=
 ⟨cell_of_block hh hj,fun ow n h=>(by rw[ho] at h;cases h),h1⟩
theorem rep_chunks {b off len cap sz:Nat} {arr:Array Value} {e:TypeId} {cs:List V} {ds:List D} (hh:w.heap[b]? =some (.cells arr e (0,0))) (ho:own b=none)
  (hc:RepL w own β arr cs) (hd:allD ((cs.drop off).take (len*sz))=some ds) (hlc:len≤cap) (hm:cap≤maxLen) (hfit:off+cap*sz≤arr.size):
  RepD w own (.slice (some ⟨b,off,none⟩) len cap) (.sl sz false (chunk sz len ds)):=by
 have hds:=allD_some hd
 have hle:len*sz≤cap*sz:=Nat.mul_le_mul_right _ hlc
 have hs:=hc.1
 have hlen:ds.length=len*sz:=by
  have:(ds.map V.d).length=((cs.drop off).take (len*sz)).length:=by rw[hds]
  simp at this;omega
 have hget: ∀(i r:Nat) (c:List D) (x:D),(chunk sz len ds)[i]? =some c→c[r]? =some x→r<sz∧off+i*sz+r<arr.size∧cs[off+i*sz+r]? =some (.d x):=by
  intro i r c x h1 h2
  obtain⟨hi,hcc⟩:=chunk_get sz len ds i c h1
  have hr:r<sz:=by
   have:=(List.getElem?_eq_some_iff.1 h2).1
   rw[hcc] at this;simp at this;omega
  have hir:i*sz+r<len*sz:=by
   have:(i+1)*sz≤len*sz:=Nat.mul_le_mul_right _ hi
   rw[Nat.succ_mul] at this;omega
  refine⟨hr,by omega, ?_⟩
  rw[hcc,List.getElem?_take,if_pos hr,List.getElem?_drop] at h2
  have h3:((cs.drop off).take (len*sz))[i*sz+r]? =some (.d x):=by
   rw[hds,List.getElem?_map,h2];rfl
  rw[List.getElem?_take,if_pos hir,List.getElem?_drop,←Nat.add_assoc] at h3
  exact h3
 refine .sl sz b off len cap _ (fun i r=>arr.getD (off+i*sz+r) undef) (chunk_length _ _ _) hlc hm (fun i c h=> ?_) (fun i r c x h1 h2=> ?_) (fun i r c x h1 h2=> ?_)
 ·obtain⟨hi,hcc⟩:=chunk_get sz len ds i c h
  have:(i+1)*sz≤len*sz:=Nat.mul_le_mul_right _ hi
  rw[Nat.succ_mul] at this
  rw[hcc];simp;omega
 ·obtain⟨h3,h4,h5⟩:=hget i r c x h1 h2
  exact fc_block hh ho h4 (hc.2.1 _ h4)
 ·obtain⟨h3,h4,h5⟩:=hget i r c x h1 h2
  exact inv_d (hc.2.2 _ _ h5)
theorem asD_sound (R:Rel C st a w own β) {v:V} {x:D} (h:asD C st v=some (x,st')) {u:Value} (hu:RepV w own β u v):
  ∃own',Rel C st' a w own' β∧Ext w own w own' ∧RepD w own' u x∧st'.tmps=st.tmps∧st'.blocks.length=st.blocks.length:=by
 unfold asD at h
 split at h
 ·cases h;exact⟨own,R,Ext.refl w own,inv_d hu,rfl,rfl⟩
 ·rename_i i off len cap sz
  cases hu with|mu _ _ _ _ _ b ad hb hsp hc hm ha hbb=>
  have had:ad=⟨ad.block,ad.off,none⟩:=by cases ad;simp at hsp;simp[hsp]
  split at h
  ·rename_i fz k xs hB
   cases hsz:Nat.beq sz 1 with
   |false=>rw[hsz] at h;cases h
   |true=>
    rw[hsz] at h
    simp only[cond_true,Option.some.injEq,Prod.mk.injEq] at h
    obtain⟨rfl,rfl⟩:=h
    have:=Nat.eq_of_beq_eq_true hsz
    subst this
    obtain⟨R1,E1⟩:=R.freeze hB hb
    refine⟨_,R1,E1, ?_,tmps_freeze _ _,length_freeze _ _⟩
    obtain⟨b',h1,h2⟩:=R.blocks _ _ hB
    rw[hb] at h1;cases h1
    cases h2 with|ints _ _ _ arr e hh hs hr ho=>
    rw[had]
    by_cases h0:cap=0
    ·have:len=0:=by omega
     subst this
     exact .nums k _ _ 0 cap _ (by simp) hc hm (fun i x hx=>by simp at hx) (fun i x hx=>by simp at hx)
    ·obtain⟨arr',e',h3,h4⟩:=hbb h0
     rw[hh] at h3;cases h3
     have ha' :=ha h0
     rw[ha']
     have hget: ∀(i:Nat) (x:Int),((xs.drop off).take len)[i]? =some x→xs[off+i]? =some x:=by
      intro i x hx
      rw[List.getElem?_take] at hx
      split at hx
      ·rw[List.getElem?_drop] at hx;exact hx
      ·cases hx
     refine .nums k b off len cap _ (by simp;omega) hc hm (fun i x hx=> ?_) (fun i x hx=>(hr _ x (hget i x hx)).2)
     have hx' :=hget i x hx
     have hlt:off+i<arr.size:=by rw[hs];exact(List.getElem?_eq_some_iff.1 hx').1
     have:=fc_block (own:=own.set b none) hh (by simp[Own.set]) hlt (by rw[(hr _ x hx').1];rfl)
     rw[(hr _ x hx').1] at this
     exact this
  ·rename_i fz cs hB
   split at h
   ·rename_i ds hds
    simp only[Option.some.injEq,Prod.mk.injEq] at h
    obtain⟨rfl,rfl⟩:=h
    obtain⟨R1,E1⟩:=R.freeze hB hb
    refine⟨_,R1,E1, ?_,tmps_freeze _ _,length_freeze _ _⟩
    obtain⟨b',h1,h2⟩:=R.blocks _ _ hB
    rw[hb] at h1;cases h1
    cases h2 with|cells _ _ arr e hh hs h1 hr ho=>
    rw[had]
    by_cases h0:cap=0
    ·have:len=0:=by omega
     subst this
     exact .sl sz _ _ 0 cap _ (fun _ _=>undef) (by simp[chunk]) hc hm (fun i c hx=>by simp[chunk] at hx) (fun i r c x hx=>by simp[chunk] at hx) (fun i r c x hx=>by simp[chunk] at hx)
    ·obtain⟨arr',e',h3,h4⟩:=hbb h0
     rw[hh] at h3;cases h3
     rw[ha h0]
     exact rep_chunks (β:=β) hh (by simp[Own.set]) ⟨hs,h1,fun j x hx=>(hr j x hx).mono E1.sub E1.wide (fun _ _ h=>h)⟩ hds hc hm h4
   ·cases h
  ·cases h
 ·rename_i i off
  obtain⟨b,hb,rfl⟩:=inv_ptr hu
  split at h
  ·rename_i fz cs hB
   split at h
   ·rename_i ds hds
    simp only[Option.some.injEq,Prod.mk.injEq] at h
    obtain⟨rfl,rfl⟩:=h
    obtain⟨R1,E1⟩:=R.freeze hB hb
    refine⟨_,R1,E1, ?_,tmps_freeze _ _,length_freeze _ _⟩
    obtain⟨b',h1,h2⟩:=R.blocks _ _ hB
    rw[hb] at h1;cases h1
    cases h2 with|cells _ _ arr e hh hs h1 hr ho=>
    have hds' :=allD_some hds
    have hget: ∀(j:Nat) (x:D),ds[j]? =some x→cs[off+j]? =some (.d x):=by
     intro j x hx
     have:(cs.drop off)[j]? =some (.d x):=by rw[hds',List.getElem?_map,hx];rfl
     rw[List.getElem?_drop] at this;exact this
    refine .fp b off ds (fun j=>arr.getD (off+j) undef) (fun j x hx=> ?_) (fun j x hx=> ?_)
    ·have hx' :=hget j x hx
     have hlt:off+j<arr.size:=by rw[hs];exact(List.getElem?_eq_some_iff.1 hx').1
     exact fc_block hh (by simp[Own.set]) hlt (h1 _ hlt)
    ·exact inv_d ((hr _ _ (hget j x hx)).mono E1.sub E1.wide (fun _ _ h=>h))
   ·cases h
  ·cases h
 ·rename_i g off
  cases hu
  split at h
  ·rename_i cs hcs
   cases h
   refine⟨own,R,Ext.refl w own, ?_,rfl,rfl⟩
   have:=(R.glob g cs hcs).drop off
   rw[Nat.zero_add] at this
   exact inv_d (repV_fp (β:=β) this)
  ·cases h
 ·cases h
theorem makeInterface_sound (T:TOk P C.tt) (R:Rel C st a w own β) {t:Nat} {x:Operand} (hop:o.op= .makeInterface t x) (hd: ∀t,o.dst=some t→t<a.tmps.size) {slot:Option Nat}
  (h:evOp C slot o st=some st') (hn:Next C st w own β a.tmps.size st' next):o.wp P a w next Q:=by
 simp only[evOp,hop] at h
 split at h
 ·rename_i v hv
  split at h
  ·rename_i d st1 i hd' hi
   obtain⟨info,ds,z,row⟩:=T.get hi
   obtain⟨own',R1,E1,hr,_,hlen⟩:=asD_sound R hd' (evO_sound R hv)
   split at h
   ·cases h
   ·rename_i hne
    cases h
    have htk:=row.tk
    have hrun:(execOp a.eval o).run P w= .ok (.value (.iface t (a.eval x))) w:=by
     cases ds<;>first
      |(simp[execOp,hop,Instr.makeInterface,row.run_und];done)
      |(exfalso;cases hk:i.k<;>rw[hk] at htk<;>simp[tkOk] at htk;exact hne hk)
    refine wp_value hrun (next_put R1 hd (.d _ _ (.ifc t _ _ hr)) (Next.of E1 (by omega) (fun _ _ _ h=>h) hn))
  ·cases h
 ·cases h
theorem evCaps_sound (R:Rel C st a w own β): ∀ {xs:List Operand} {vs:List V},evCaps C st xs=some vs→vs.length=xs.length∧
  ∀(j:Nat) (v:V),vs[j]? =some v→RepV w own β ((xs.map a.eval).getD j undef) v
 |[],vs,h=>by simp[evCaps] at h;subst h;exact⟨rfl,fun j v h=>by simp at h⟩
 |x::xs,vs,h=>by
  have step: ∀(v:V) (vs' :List V),evO C st 0 x=some v→evCaps C st xs=some vs' →vs=v::vs' →vs.length=(x::xs).length∧
    ∀(j:Nat) (u:V),vs[j]? =some u→RepV w own β (((x::xs).map a.eval).getD j undef) u:=by
   intro v vs' hv hvs e
   subst e
   obtain⟨h1,h2⟩:=evCaps_sound R hvs
   refine⟨by simp[h1],fun j u hu=> ?_⟩
   cases j with
   |zero=>simp at hu;subst hu;simpa using evO_sound R hv
   |succ j=>simpa using h2 j u (by simpa using hu)
  simp only[evCaps] at h
  split at h
  ·split at h
   ·cases h;exact step _ _ (by assumption) (by assumption) rfl
   ·cases h
  ·split at h
   ·cases h;exact step _ _ (by assumption) (by assumption) rfl
   ·cases h
  ·split at h
   ·cases h;exact step _ _ (by assumption) (by assumption) rfl
   ·cases h
  ·cases h
theorem makeFunc_sound (R:Rel C st a w own β) {f:FuncId} {first caps:Array Operand} (hop:o.op= .makeFunc (.func f) first caps) (hd: ∀t,o.dst=some t→t<a.tmps.size) {slot:Option Nat}
  (h:evOp C slot o st=some st') (hn:Next C st w own β a.tmps.size st' next):o.wp P a w next Q:=by
 simp only[evOp,hop] at h
 split at h
 ·rename_i cs hz hcs
  cases h
  have hf:first= #[]:=Array.eq_empty_of_size_eq_zero hz
  subst hf
  obtain⟨h1,h2⟩:=evCaps_sound R hcs
  have hrun:(execOp a.eval o).run P w= .ok (.value (.func (.func f) #[] (caps.map a.eval))) w:=by simp[execOp,hop,Instr.makeFunc]
  refine wp_value hrun (next_put R hd (.fn f _ cs (by simp[h1]) (fun j x hx=> ?_)) hn)
  have:=h2 j x hx
  rw[←getD_toList]
  simpa using this
 ·cases h
end Go.VM
set_option linter.unusedSimpArgs false
set_option linter.unusedVariables false
namespace Go.VM
open Go
variable {P : Program} {C : Ctx} {st st' : St} {a : Act} {w : World} {own : Own} {β : Nat → Option Nat}
variable {o : Oper} {next : Act → World → Prop} {Q : Exit → Act → World → Prop}
theorem own_fresh (R:Rel C st a w own β):own w.heap.size=none:=by
 cases h:own w.heap.size with
 |none=>rfl
 |some r=>
  obtain⟨arr,e,h'⟩:=R.plain _ r h
  have:=lt_of_heap h'
  omega
theorem Rel.allocFree (R:Rel C st a w own β) {w' :World} {ob:Obj} (hos:w'.os=w.os) (ht:w'.tape=w.tape) (hou:w'.output=w.output) (hh:w'.heap=w.heap.push ob):
  Rel C st a w' own β∧Ext w own w' own:=by
 have hold: ∀b,b<w.heap.size→w'.heap[b]? =w.heap[b]? :=fun b hb=>by
  rw[hh,Array.getElem?_push,if_neg (by omega)]
 have E:Ext w own w' own:=⟨hos,ht,hou,by rw[hh];simp,fun b hb h=>⟨hold b hb,h⟩,
  fun b ow n hb h=>⟨fun p _=>cell_of_heap (hold b hb) p,fun ow' n' h' =>by rw[h] at h';cases h';exact Nat.le_refl _⟩,
  fun b arr e h=>⟨arr,by rw[hold b (lt_of_heap h)];exact h,rfl⟩,fun b n h=>⟨hold b (R.plain_lt b _ h),h⟩⟩
 refine⟨R.ext E (fun i B b h hb=>⟨hold b (R.β_lt h hb),rfl⟩) (fun _ _ _ h=>h) (fun b r h=> ?_),E⟩
 obtain⟨arr,e,h'⟩:=R.plain b r h
 exact⟨arr,e,by rw[hold b (lt_of_heap h')];exact h'⟩
theorem own_sound (R:Rel C st a w own β) {dst:Option Nat} {yes:Bool} {x:V} {v:Value}
  (hv:RepV w own β v x) (hd: ∀t,dst=some t→t<a.tmps.size) (ho:yes=true→ ∀p,OwnsAt w own p v x):
  Rel C ((st.put dst x).own dst yes) (a.put dst v) w own β:=by
 have R1:=R.put hd hv
 unfold St.own
 split
 ·rename_i d
  refine R1.ownTmp (fun y hy=> ?_)
  simp only[St.put,look_ins_same,Option.some.injEq] at hy
  subst hy
  rw[tmps_put_some,getD_set_same _ _ _ (hd d rfl)]
  exact ho rfl _
 ·exact R1
theorem next_own (R:Rel C st a w own β) {yes:Bool} {x:V} {v:Value} (hd: ∀t,o.dst=some t→t<a.tmps.size)
  (hv:RepV w own β v x) (ho:yes=true→ ∀p,OwnsAt w own p v x) (hn:Next C st w own β a.tmps.size ((st.put o.dst x).own o.dst yes) next):next (a.put o.dst v) w:=
 hn _ _ _ _ (own_sound R hv hd ho) (Ext.refl w own) (fun _ _ _ h=>h) (size_put a _ _)
theorem bytes_fold: ∀(ns:List Int) (s:ByteArray),(∀n∈ns,0≤n∧n≤255)→bytesI (ns.foldl (fun r n=>r.push (UInt8.ofNat n.toNat)) s)=bytesI s++ns
 |[],s,_=>by simp
 |n::ns,s,h=>by
  obtain⟨h0,h1⟩:=h n (by simp)
  rw[List.foldl_cons,bytes_fold ns _ (fun m hm=>h m (by simp[hm]))]
  have:(UInt8.ofNat n.toNat).toNat=n.toNat:=by
   rw[UInt8.toNat_ofNat'];exact Nat.mod_eq_of_lt (by omega)
  simp[bytesI,ByteArray.data_push,this]
  omega
theorem loadCells_nums {k:IntKind} {b off len:Nat} {xs:List Int} (hl:xs.length=len) (h: ∀(i:Nat) (x:Int),xs[i]? =some x→w.cell? ⟨b,off+i,none⟩=some (.int k x)):
  (loadCells ⟨b,off,none⟩ len).run P w= .ok (xs.map (Value.int k)).toArray w:=by
 have:=run_loadCells_list (P:=P) w ⟨b,off,none⟩ (xs.map (Value.int k)) (fun j v hv=>by
  simp only[List.getElem?_map,Option.map_eq_some_iff] at hv
  obtain⟨x,h1,rfl⟩:=hv
  rw[Addr.add_lit];exact h j x h1)
 rw[List.length_map,hl] at this
 exact this
theorem u8_range {n:Int} (h:IntKind.u8.wrap n=n):0≤n∧n≤255:=by
 rw[wrap_iff] at h
 simpa[IntKind.min,IntKind.max,IntKind.signed,IntKind.bits] using h
theorem toString_nums (T:TOk P C.tt) {s d e:Nat} {i j je:TI} (hi:C.tt s=some i) (hj:C.tt d=some j) (hk:i.k= .slice e) (hjk:j.k= .str) (he:C.tt e=some je) (hje:je.k= .int .u8)
  {b off len cap:Nat} {xs:List Int} (hl:xs.length=len) (hm:len≤maxLen) (h: ∀(i:Nat) (x:Int),xs[i]? =some x→w.cell? ⟨b,off+i,none⟩=some (.int .u8 x))
  (hw: ∀(i:Nat) (x:Int),xs[i]? =some x→IntKind.u8.wrap x=x):
  ∃v,(convert s d (.slice (some ⟨b,off,none⟩) len cap)).run P w= .ok v w∧RepD w own v (.str xs):=by
 obtain⟨_,_,_,r1⟩:=T.get hi
 obtain⟨_,_,_,r2⟩:=T.get hj
 obtain⟨_,_,_,r3⟩:=T.get he
 have h1:=r1.slice hk;subst h1
 have h2:=r2.str hjk;subst h2
 have h3:=r3.int hje;subst h3
 rw[run_convert_bytes_string w s d e _ _ _ r1.und r3.und r2.und,run_bytesToString w _ _ _ xs (loadCells_nums hl h)]
 refine⟨_,rfl,.str _ _ ?_ (by omega)⟩
 rw[bytes_fold _ _ (fun n hn=> ?_)]
 ·simp[bytesI]
 ·obtain⟨k,hk,rfl⟩:=List.mem_iff_getElem.1 hn
  exact u8_range (hw k _ (by simp[hk]))
theorem toString_none (T:TOk P C.tt) {s d e:Nat} {i j je:TI} (hi:C.tt s=some i) (hj:C.tt d=some j) (hk:i.k= .slice e) (hjk:j.k= .str) (he:C.tt e=some je) (hje:je.k= .int .u8) (ad:Addr) (cap:Nat):
  ∃v,(convert s d (.slice (some ad) 0 cap)).run P w= .ok v w∧RepD w own v (.str []):=by
 obtain⟨_,_,_,r1⟩:=T.get hi
 obtain⟨_,_,_,r2⟩:=T.get hj
 obtain⟨_,_,_,r3⟩:=T.get he
 have h1:=r1.slice hk;subst h1
 have h2:=r2.str hjk;subst h2
 have h3:=r3.int hje;subst h3
 have hl:(loadCells ad 0).run P w= .ok (([]:List Int).map (Value.int .u8)).toArray w:=by
  have:=run_loadCells_list (P:=P) w ad [] (fun j v hv=>by simp at hv)
  simpa using this
 rw[run_convert_bytes_string w s d e _ _ _ r1.und r3.und r2.und,run_bytesToString w _ _ _ [] hl]
 refine⟨_,rfl,.str _ _ ?_ (by simp)⟩
 simp[bytesI]
theorem run_strBytes {s d e:Nat} {i:TypeDesc} (h1:P.underlying s=some i) (h2:P.underlying d=some (.slice e)) (h3:P.underlying e=some (.int .u8)) (t:ByteArray):
  ∃(w1:World) (arr:Array Value) (fz:Nat×Nat),w1.os=w.os∧w1.tape=w.tape∧w1.output=w.output∧w1.heap=w.heap.push (.cells arr e fz)∧
   arr=(t.data.map fun b=>Value.int .u8 b.toNat)++Array.replicate (grownCap w t.size 0 e-t.size) (.int .u8 0)∧
   (convert s d (.string t)).run P w= .ok (.slice (some ⟨w.heap.size,0,none⟩) t.size (grownCap w t.size 0 e)) w1:=by
 let A:Array Value:=(t.data.map fun b=>Value.int .u8 b.toNat)++Array.replicate (grownCap w t.size 0 e-t.size) (.int .u8 0)
 have hnew:(w.drew.alloc (.cells A e)).heap[w.heap.size]? =some (.cells A e):=heap_alloc_new w.drew _
 refine⟨(w.drew.alloc (.cells A e)).freeze {block:=w.heap.size,off:=A.size} 1,A,(A.size,A.size+1), ?_, ?_, ?_, ?_,rfl, ?_⟩
 ·rfl
 ·rfl
 ·rfl
 ·simp only[World.freeze,Nat.one_ne_zero,if_false]
  apply Array.ext_getElem?
  intro k
  rw[Array.getElem?_modify,Array.getElem?_push]
  by_cases hk:w.heap.size=k
  ·subst hk
   rw[hnew]
   simp
  ·have hk' : ¬k=w.heap.size:=fun e=>hk e.symm
   simp only[hk,if_false,hk']
   show (w.heap.push _)[k]? =_
   rw[Array.getElem?_push,if_neg hk']
 ·have hA:A=(t.data.map fun b=>Value.int .u8 b.toNat)++Array.replicate ((Question.appendCap t.size 0 e).cut (w.tape w.drawn (.appendCap t.size 0 e))-t.size) (.int .u8 0):=rfl
  have hsh:(w.drew.alloc (.cells A e)).shape? w.heap.size=some (e,A.size):=by simp only[World.shape?,hnew]
  simp[convert,run_underlying h1,run_underlying h2,run_underlying h3,Conv.stringToBytes,Question.forced,newRow,markStringish,grownCap,←hA,hsh]
theorem convert_sound (T:TOk P C.tt) (R:Rel C st a w own β) {s d:Nat} {x:Operand} (hop:o.op= .convert s d x) (hd: ∀t,o.dst=some t→t<a.tmps.size) {slot:Option Nat}
  (h:evOp C slot o st=some st') (hn:Next C st w own β a.tmps.size st' next):o.wp P a w next Q:=by
 simp only[evOp,hop] at h
 split at h
 ·rename_i p hp
  have hpr:=evO_sound R hp
  split at h
  ·rename_i v ow hv
   cases h
   have fin: ∀ {u:Value},ow=false→(convert s d (a.eval x)).run P w= .ok u w→RepV w own β u v→o.wp P a w next Q:=by
    intro u how hrun hrep
    subst how
    have hr:(execOp a.eval o).run P w= .ok (.value u) w:=by simp[execOp,hop,hrun]
    exact wp_value hr (next_own R hd hrep (fun h=>by cases h) hn)
   unfold evConv at hv
   split at hv
   ·rename_i i j hi hj
    obtain⟨_,_,_,r1⟩:=T.get hi
    obtain⟨_,_,_,r2⟩:=T.get hj
    split at hv
    ·rename_i k k' n hk
     cases hv
     obtain⟨he,_⟩:=inv_int hpr
     have h2:=r2.int hk;subst h2
     refine fin rfl ?_ (.d _ _ (.int k _ (wrap_wrap k n)))
     simp[convert,r1.run_und,r2.run_und,he,Conv.intToInt]
    ·rename_i l hk
     cases hv
     obtain⟨s',he,h1,h3⟩:=inv_str hpr
     have h2:=r2.str hk;subst h2
     refine fin rfl ?_ hpr
     simp[convert,r1.run_und,r2.run_und,he]
    ·rename_i nl xs hk
     split at hv
     ·rename_i e hki
      split at hv
      ·rename_i hte
       cases hv
       have hpd:=inv_d hpr
       generalize hg:a.eval x=u at hpd
       cases hpd with
       |numsNil=>
        have h1:=r1.slice hki;subst h1
        have h2:=r2.str hk;subst h2
        obtain⟨_,_,_,r3⟩:=T.get hte
        have h3:=r3.int rfl;subst h3
        refine fin (u:= .string .empty) rfl ?_ (.d _ _ (.str _ _ rfl (by simp)))
        rw[hg]
        simp[convert,r1.run_und,r2.run_und,r3.run_und,Conv.bytesToString]
       |numsE _ ad cap hm=>
        obtain⟨v,h1,h2⟩:=toString_none (own:=own) (w:=w) T hi hj hki hk hte rfl ad cap
        exact fin rfl (by rw[hg];exact h1) (.d _ _ h2)
       |nums _ b off len cap _ hl hc hm hh hw=>
        obtain⟨v,h1,h2⟩:=toString_nums (own:=own) (cap:=cap) T hi hj hki hk hte rfl hl (by omega) (fun i x hx=>(hh i x hx).cell) hw
        exact fin rfl (by rw[hg];exact h1) (.d _ _ h2)
      ·cases hv
     ·cases hv
    ·rename_i b off len cap sz hk
     split at hv
     ·rename_i e hki
      split at hv
      ·rename_i xs hte hB
       cases hsz:Nat.beq sz 1 with
       |false=>rw[hsz] at hv;cases hv
       |true=>
        rw[hsz] at hv;cases hv
        have:=Nat.eq_of_beq_eq_true hsz
        subst this
        generalize hg:a.eval x=u at hpr
        cases hpr with|mu _ _ _ _ _ pb ad hb hsp hc hm ha hbb=>
        obtain⟨b',h1,h2⟩:=R.blocks _ _ hB
        rw[hb] at h1;cases h1
        cases h2 with|ints _ _ _ arr e' hh hs hr ho=>
        have had:ad=⟨ad.block,ad.off,none⟩:=by cases ad;simp at hsp;simp[hsp]
        rw[had] at hg
        have hget: ∀(i:Nat) (x:Int),((xs.drop off).take len)[i]? =some x→xs[off+i]? =some x∧i<len:=by
         intro i x hx
         rw[List.getElem?_take] at hx
         split at hx
         ·rename_i hi;rw[List.getElem?_drop] at hx;exact⟨hx,hi⟩
         ·cases hx
        by_cases h0:cap=0
        ·have:len=0:=by omega
         subst this
         obtain⟨v,h1,h2⟩:=toString_nums (own:=own) (w:=w) (xs:=[]) (cap:=cap) (b:=ad.block) (off:=ad.off) T hi hj hki hk hte rfl rfl (by simp) (fun i x hx=>by simp at hx) (fun i x hx=>by simp at hx)
         exact fin rfl (by rw[hg];exact h1) (.d _ _ (by simpa using h2))
        ·obtain⟨arr',e'',h3,h4⟩:=hbb h0
         rw[hh] at h3;cases h3
         have ha' :=ha h0
         obtain⟨v,h1,h2⟩:=toString_nums (own:=own) (w:=w) (xs:=(xs.drop off).take len) (len:=len) (cap:=cap) (b:=pb) (off:=off) T hi hj hki hk hte rfl (by simp;omega) (by omega)
          (fun i x hx=>by
           obtain⟨h5,h6⟩:=hget i x hx
           have:=cell_of_block hh (show off+i<arr.size by omega)
           rw[(hr _ x h5).1] at this;exact this) (fun i x hx=>(hr _ x (hget i x hx).1).2)
         rw[←had,ha'] at hg
         exact fin rfl (by rw[hg];exact h1) (.d _ _ h2)
      ·cases hv
     ·cases hv
    ·rename_i e l hk
     split at hv
     ·rename_i hte
      cases hv
      obtain⟨s',he,h1,h3⟩:=inv_str hpr
      have h2:=r2.slice hk;subst h2
      obtain⟨_,_,_,r3⟩:=T.get hte
      have h4:=r3.int rfl;subst h4
      let cap:=(Question.appendCap s'.size 0 e).cut (w.tape w.drawn (.appendCap s'.size 0 e))
      have hcap:s'.size≤cap:=by simp[cap,Question.cut]
      have hcm:cap≤maxLen:=by
       have e1:(bytesI s').length=s'.size:=by simp[bytesI]
       have:s'.size≤maxLen:=by rw[←e1,h1];exact h3
       exact grownCap_le_maxLen w s'.size 0 e this
      obtain⟨w1,arr,fz,hos,hta,hou,hhe,harr,hrun⟩:=run_strBytes (P:=P) (w:=w) r1.und r2.und r3.und s'
      rw[←he] at hrun
      have e1:(bytesI s').length=s'.size:=by simp[bytesI]
      have hsm:s'.size≤maxLen:=by rw[←e1,h1];exact h3
      obtain⟨R1,E1⟩:=R.allocFree hos hta hou hhe
      have hr:(execOp a.eval o).run P w= .ok (.value (.slice (some ⟨w.heap.size,0,none⟩) s'.size (grownCap w s'.size 0 e))) w1:=by simp[execOp,hop,hrun]
      have hnew:w1.heap[w.heap.size]? =some (.cells arr e fz):=by rw[hhe];simp
      refine wp_value hr (next_own R1 hd (.d _ _ ?_) (fun h=>by cases h) (Next.of E1 (Nat.le_refl _) (fun _ _ _ h=>h) hn))
      refine .nums .u8 _ 0 _ _ l (by rw[←h1,e1]) (grownCap_ge w s'.size 0 e) (grownCap_le_maxLen w s'.size 0 e hsm) (fun k c hc=> ?_) (fun k c hc=> ?_)
      ·rw[←h1] at hc
       simp only[bytesI,List.getElem?_map,Option.map_eq_some_iff] at hc
       obtain⟨b,hb1,rfl⟩:=hc
       rw[Array.getElem?_toList] at hb1
       have hlt:k<s'.data.size:=(Array.getElem?_eq_some_iff.1 hb1).1
       refine⟨?_,fun ow n h=>(by rw[own_fresh R] at h;cases h),rfl⟩
       simp only[World.cell?,hnew,Nat.zero_add]
       rw[harr,Array.getElem?_append_left (by simpa using hlt),Array.getElem?_map,hb1]
       rfl
      ·rw[←h1] at hc
       simp only[bytesI,List.getElem?_map,Option.map_eq_some_iff] at hc
       obtain⟨b,hb1,rfl⟩:=hc
       have:=b.toNat_lt
       rw[wrap_iff];simp[IntKind.min,IntKind.max,IntKind.signed,IntKind.bits];omega
     ·cases hv
    ·cases hv
   ·cases hv
  ·cases h
 ·cases h
end Go.VM
