/- The machine over values: reading and writing memory. -/
import Derived.Test.YthpmkmogoejjpaaGreatDoorVMB
import Derived.Laws.StructEq
import Derived.WideLaws
set_option linter.unusedSimpArgs false
set_option linter.unusedVariables false
namespace Go.VM
open Go
variable {P : Program} {C : Ctx} {st st' : St} {a : Act} {w : World} {own : Own} {β : Nat → Option Nat}
variable {o : Oper} {next : Act → World → Prop} {Q : Exit → Act → World → Prop}
theorem RepC.val {b o:Nat} {cs:List D} (h:RepC w own b o cs): ∃val:Nat→Value,∀(j:Nat) (x:D),cs[j]? =some x→Fc w own b (o+j) (val j)∧RepD w own (val j) x:=by
 have key: ∀j:Nat,∃v:Value,∀x:D,cs[j]? =some x→Fc w own b (o+j) v∧RepD w own v x:=by
  intro j
  cases hj:cs[j]? with
  |none=>exact⟨undef,fun x hx=>by cases hx⟩
  |some x=>
   obtain⟨v,h1,h2⟩:=h j x hj
   exact⟨v,fun y hy=>by cases hy;exact⟨h1,h2⟩⟩
 exact⟨fun j=>(key j).choose,fun j x hx=>(key j).choose_spec x hx⟩
theorem run_loadVar {t:Nat} {i:TI} {info:TypeInfo} {d:TypeDesc} {z:Value} (r:Row P t i info d z) {b off:Nat} (hg:i.isAgg=true) (f:Nat→Value)
  (h: ∀j,j<i.size→w.cell? ⟨b,off+j,none⟩=some (f j)):(loadVar t ⟨b,off,none⟩).run P w= .ok (.agg ((List.range i.size).map f).toArray) w:=by
 have:=run_loadCells (P:=P) w ⟨b,off,none⟩ i.size f (fun j hj=>by rw[Addr.add_lit];exact h j hj)
 simp[loadVar,r.run_isAgg,hg,r.run_size,this]
theorem run_loadVar1 {t:Nat} {i:TI} {info:TypeInfo} {d:TypeDesc} {z:Value} (r:Row P t i info d z) {b off:Nat} (hg:i.isAgg=false) {v:Value}
  (h:w.cell? ⟨b,off,none⟩=some v):(loadVar t ⟨b,off,none⟩).run P w= .ok v w:=by
 simp[loadVar,r.run_isAgg,hg,h]
theorem cell_of_block {b:Nat} {arr:Array Value} {e:TypeId} (h:w.heap[b]? =some (.cells arr e (0,0))) {j:Nat} (hj:j<arr.size):w.cell? ⟨b,j,none⟩=some (arr.getD j undef):=by
 simp[World.cell?,h,Array.getD,hj]
theorem getD_range (f:Nat→Value) {n j:Nat} (h:j<n):(((List.range n).map f).toArray).getD j undef=f j:=by
 simp[Array.getD,h]
theorem load_rep (T:TOk P C.tt) (R:Rel C st a w own β) {t:Nat} {p:V} {v:V} (h:evLoad C st t p=some v) {pv:Value} (hp:RepV w own β pv p):
  ∃ad x,pv= .pointer (some ad)∧(loadVar t ad).run P w= .ok x w∧RepV w own β x v:=by
 unfold evLoad at h
 split at h
 ·cases h
 ·rename_i i hi
  obtain⟨info,d,z,r⟩:=T.get hi
  have data: ∀(b off:Nat) (cs:List D),RepC w own b off cs→headD i cs=some v→ ∃x,(loadVar t ⟨b,off,none⟩).run P w= .ok x w∧RepV w own β x v:=by
   intro b off cs hc hh
   obtain⟨val,hv⟩:=hc.val
   unfold headD at hh
   cases hg:i.isAgg with
   |true=>
    rw[hg] at hh
    simp only[cond_true] at hh
    cases hl:Nat.ble i.size cs.length with
    |false=>rw[hl] at hh;cases hh
    |true=>
     rw[hl] at hh
     simp only[cond_true,Option.some.injEq] at hh
     have hle:=Nat.le_of_ble_eq_true hl
     have hget: ∀j,j<i.size→ ∃y,cs[j]? =some y:=fun j hj=>⟨cs[j]'(by omega),by simp⟩
     refine⟨_,run_loadVar r hg val (fun j hj=> ?_), ?_⟩
     ·obtain⟨y,hy⟩:=hget j hj
      exact(hv j y hy).1.cell
     ·subst hh
      refine .d _ _ (.agg _ _ (by simp;omega) (fun j hj=> ?_) (fun j y hy=> ?_))
      ·simp at hj
       obtain⟨y,hy⟩:=hget j hj
       rw[getD_range val hj];exact(hv j y hy).1.one
      ·rw[List.getElem?_take] at hy
       split at hy
       ·rename_i hj
        rw[getD_range val hj];exact(hv j y hy).2
       ·cases hy
   |false=>
    rw[hg] at hh
    simp only[cond_false] at hh
    cases cs with
    |nil=>cases hh
    |cons y l=>
     simp only[Option.some.injEq] at hh
     subst hh
     have:=hv 0 y rfl
     exact⟨_,run_loadVar1 r hg (by simpa using this.1.cell),.d _ _ this.2⟩
  split at h
  ·rename_i i' off
   obtain⟨b,hb,rfl⟩:=inv_ptr hp
   split at h
   ·rename_i fz cs hB
    obtain⟨b',h1,h2⟩:=R.blocks _ _ hB
    rw[hb] at h1;cases h1
    cases h2 with|cells _ _ arr e hh hs h1 hr ho=>
    unfold headV at h
    cases hg:i.isAgg with
    |true=>
     rw[hg] at h
     simp only[cond_true] at h
     cases hl:Nat.ble i.size (cs.drop off).length with
     |false=>rw[hl] at h;cases h
     |true=>
      rw[hl] at h
      simp only[cond_true,Option.some.injEq] at h
      have hle:=Nat.le_of_ble_eq_true hl
      simp at hle
      ·refine⟨_,_,rfl,run_loadVar r hg (fun j=>arr.getD (off+j) undef) (fun j hj=>cell_of_block hh (by omega)), ?_⟩
       subst h
       refine mkAgg_sound ⟨by simp;omega,fun j hj=> ?_,fun j y hy=> ?_⟩
       ·simp at hj
        rw[getD_range _ hj];exact h1 _ (by omega)
       ·rw[List.getElem?_take] at hy
        split at hy
        ·rename_i hj
         rw[getD_range _ hj]
         rw[List.getElem?_drop] at hy
         exact hr _ y hy
        ·cases hy
    |false=>
     rw[hg] at h
     simp only[cond_false] at h
     split at h
     ·rename_i y l hy
      simp only[Option.some.injEq] at h
      subst h
      have hy0:cs[off]? =some y:=by
       have:(cs.drop off)[0]? =some y:=by rw[hy];rfl
       rw[List.getElem?_drop] at this;simpa using this
      have hlt:off<cs.length:=(List.getElem?_eq_some_iff.1 hy0).1
      exact⟨_,_,rfl,run_loadVar1 r hg (cell_of_block hh (by omega)),hr _ y hy0⟩
     ·cases h
   ·rename_i fz k xs hB
    obtain⟨b',h1,h2⟩:=R.blocks _ _ hB
    rw[hb] at h1;cases h1
    cases h2 with|ints _ _ _ arr e hh hs hr ho=>
    unfold headI at h
    cases hg:i.isAgg with
    |true=>
     rw[hg] at h
     simp only[cond_true] at h
     cases hl:Nat.ble i.size (xs.drop off).length with
     |false=>rw[hl] at h;cases h
     |true=>
      rw[hl] at h
      simp only[cond_true,Option.some.injEq] at h
      have hle:=Nat.le_of_ble_eq_true hl
      simp at hle
      ·refine⟨_,_,rfl,run_loadVar r hg (fun j=>arr.getD (off+j) undef) (fun j hj=>cell_of_block hh (by omega)), ?_⟩
       subst h
       have hget: ∀j,j<i.size→ ∃y,xs[off+j]? =some y:=fun j hj=>⟨xs[off+j]'(by omega),by simp⟩
       refine .d _ _ (.agg _ _ (by simp;omega) (fun j hj=> ?_) (fun j y hy=> ?_))
       ·simp at hj
        obtain⟨y,hy⟩:=hget j hj
        rw[getD_range _ hj,(hr _ y hy).1];rfl
       ·simp only[List.getElem?_map,Option.map_eq_some_iff] at hy
        obtain⟨n,hn,rfl⟩:=hy
        rw[List.getElem?_take] at hn
        split at hn
        ·rename_i hj
         rw[List.getElem?_drop] at hn
         rw[getD_range _ hj,(hr _ n hn).1]
         exact .int _ _ (hr _ n hn).2
        ·cases hn
    |false=>
     rw[hg] at h
     simp only[cond_false] at h
     split at h
     ·rename_i y l hy
      simp only[Option.some.injEq] at h
      subst h
      have hy0:xs[off]? =some y:=by
       have:(xs.drop off)[0]? =some y:=by rw[hy];rfl
       rw[List.getElem?_drop] at this;simpa using this
      have hlt:off<xs.length:=(List.getElem?_eq_some_iff.1 hy0).1
      refine⟨_,_,rfl,run_loadVar1 r hg (cell_of_block hh (by omega)), ?_⟩
      rw[(hr _ y hy0).1]
      exact .d _ _ (.int _ _ (hr _ y hy0).2)
     ·cases h
   ·cases h
  ·rename_i cs
   obtain⟨b,off,rfl,hc⟩:=inv_fp hp
   obtain⟨x,h1,h2⟩:=data b off cs hc h
   exact⟨_,x,rfl,h1,h2⟩
  ·rename_i g off
   cases hp
   split at h
   ·rename_i cs hcs
    have hc:=R.glob g cs hcs
    obtain⟨x,h1,h2⟩:=data g off (cs.drop off) (fun j y hy=>by
     rw[List.getElem?_drop] at hy
     have:=hc (off+j) y hy
     simpa using this) h
    exact⟨_,x,rfl,h1,h2⟩
   ·cases h
  ·cases h
theorem load_cell (T:TOk P C.tt) (R:Rel C st a w own β) {t b off:Nat} {v:V} (h:evLoad C st t (.ptr b off)=some v) (hs:isSl v=true) {pb:Nat} (hb:β b=some pb) {x:Value}
  (hx:(loadVar t ⟨pb,off,none⟩).run P w= .ok x w): ∃fz cs,getB st b=some (.cells fz cs)∧cs[off]? =some v∧w.cell? ⟨pb,off,none⟩=some x:=by
 unfold evLoad at h
 split at h
 ·cases h
 ·rename_i i hi
  obtain⟨info,d,z,r⟩:=T.get hi
  simp only at h
  split at h
  ·rename_i fz cs hB
   obtain⟨b',h1,h2⟩:=R.blocks _ _ hB
   rw[hb] at h1;cases h1
   cases h2 with|cells _ _ arr e hh hs' h1 hr ho=>
   unfold headV at h
   cases hg:i.isAgg with
   |true=>
    rw[hg] at h
    simp only[cond_true] at h
    cases hl:Nat.ble i.size (cs.drop off).length with
    |false=>rw[hl] at h;cases h
    |true=>
     rw[hl] at h
     simp only[cond_true,Option.some.injEq] at h
     subst h
     unfold mkAgg at hs
     split at hs<;>cases hs
   |false=>
    rw[hg] at h
    simp only[cond_false] at h
    split at h
    ·rename_i y l hy
     simp only[Option.some.injEq] at h
     subst h
     have hy0:cs[off]? =some y:=by
      have:(cs.drop off)[0]? =some y:=by rw[hy];rfl
      rw[List.getElem?_drop] at this;simpa using this
     have hlt:off<cs.length:=(List.getElem?_eq_some_iff.1 hy0).1
     have hcell:=cell_of_block hh (show off<arr.size by omega)
     rw[run_loadVar1 r hg hcell] at hx
     cases hx
     exact⟨fz,cs,hB,hy0,hcell⟩
    ·cases h
  ·unfold headI at h
   cases hg:i.isAgg with
   |true=>
    rw[hg] at h
    simp only[cond_true] at h
    rename_i xs _
    cases hl:Nat.ble i.size (xs.drop off).length with
    |false=>rw[hl] at h;cases h
    |true=>rw[hl] at h;cases h;cases hs
   |false=>
    rw[hg] at h
    simp only[cond_false] at h
    split at h
    ·cases h;cases hs
    ·cases h
  ·cases h
theorem load_sound (T:TOk P C.tt) (R:Rel C st a w own β) {t:Nat} {x:Operand} (hop:o.op= .load t x) (hd: ∀t,o.dst=some t→t<a.tmps.size) {slot:Option Nat}
  (h:evOp C slot o st=some st') (hn:Next C st w own β a.tmps.size st' next):o.wp P a w next Q:=by
 simp only[evOp,hop] at h
 split at h
 ·rename_i p hp
  split at h
  ·rename_i v hv
   have hpr:=evO_sound R hp
   obtain⟨ad,y,hpv,hrun,hy⟩:=load_rep T R hv hpr
   have hr:(execOp a.eval o).run P w= .ok (.value y) w:=by
    simp[execOp,hop,Instr.loadAt,Instr.sureAddr,hpv,hrun]
   refine wp_value hr ?_
   split at h
   ·rename_i b off d hdst hlin
    cases h
    rw[Bool.and_eq_true] at hlin
    obtain⟨pb,hpb,hpe⟩:=inv_ptr hpr
    rw[hpe] at hpv
    cases hpv
    obtain⟨fz,cs,hB,hcs,hcell⟩:=load_cell T R hv hlin.2 hpb hrun
    have hdd:=hd d hdst
    have R1:=R.put hd hy
    obtain⟨own',R2,E2⟩:=R1.give (p:= .b b off) (q:= .t d) (by
     intro hp x' v' ⟨h1,h2⟩
     rw[hdst] at h1 h2⊢
     simp only[St.put,look_ins_same,Option.some.injEq] at h1
     rw[tmps_put_some,getD_set_same _ _ _ hdd] at h2
     subst h1
     exact⟨fz,cs,pb,by rw[getB_put];exact hB,hcs,hpb,by rw[h2];exact hcell⟩) (fun i j h=>by cases h)
    exact hn _ _ _ _ R2 E2 (fun _ _ _ h=>h) (size_put a _ _)
   ·cases h;exact next_put R hd hy hn
  ·cases h
 ·cases h
end Go.VM
set_option linter.unusedSimpArgs false
set_option linter.unusedVariables false
namespace Go.VM
open Go
variable {P : Program} {C : Ctx} {st st' : St} {a : Act} {w : World} {own : Own} {β : Nat → Option Nat}
variable {o : Oper} {next : Act → World → Prop} {Q : Exit → Act → World → Prop}
theorem getB_setB {i:Nat} {B B' :Blk} (h:getB st i=some B) (j:Nat):getB (st.setB i B') j=if j=i then some B' else getB st j:=by
 have hl:i<st.blocks.length:=by
  unfold getB at h
  split at h
  ·rename_i h1;exact(List.getElem?_eq_some_iff.1 h1).1
  ·cases h
 simp only[getB,St.setB,List.getElem?_set]
 by_cases e:i=j
 ·subst e;simp[hl]
 ·have e' : ¬j=i:=fun h=>e h.symm
  simp[e,e']
theorem ext_setRow {b i:Nat} (ho:own b=some (.bl i,0)) {arr arr' :Array Value} {e:TypeId} (hh:w.heap[b]? =some (.cells arr e (0,0))) (hs:arr'.size=arr.size):
  Ext w own (w.setRow b arr') own where
 os:=rfl
 tape:=rfl
 output:=rfl
 size:=by simp
 free c hc h:=by
  have:c≠b:=fun e=>by rw[e,ho] at h;cases h
  exact⟨setRow_other w b c arr' this,h⟩
 part c ow' n hc h:=by
  refine⟨fun p hp=> ?_,fun ow'' n' h' =>by rw[h] at h';cases h';exact Nat.le_refl _⟩
  by_cases e:c=b
  ·subst e;rw[ho] at h;cases h;omega
  ·exact cell_of_heap (setRow_other w b c arr' e) p
 wide c arr1 e1 h:=by
  by_cases ec:c=b
  ·subst ec
   rw[hh] at h
   cases h
   exact⟨arr',setRow_heap w c arr arr' e (0,0) hh,hs⟩
  ·exact⟨arr1,by rw[setRow_other w b c arr' ec];exact h,rfl⟩
 far c n h:=by
  have:c≠b:=fun e=>by rw[e,ho] at h;cases h
  exact⟨setRow_other w b c arr' this,h⟩
theorem Rel.write (R:Rel C st a w own β) {i b:Nat} {B B' :Blk} (hB:getB st i=some B) (hb:β i=some b) (ho:own b=some (.bl i,0))
  {arr arr' :Array Value} {e:TypeId} (hh:w.heap[b]? =some (.cells arr e (0,0))) (hs:arr'.size=arr.size)
  (hB' :Sub w own (w.setRow b arr') own→Wide w (w.setRow b arr')→BlkRel (w.setRow b arr') own β i b B')
  (hown: ∀j,hasPl (.b i j) st.owns=true→ ∀x v,ValAt (st.setB i B') a (w.setRow b arr') β (.b i j) x v→ValAt st a w β (.b i j) x v):
  Rel C (st.setB i B') a (w.setRow b arr') own β∧Ext w own (w.setRow b arr') own:=by
 have E:=ext_setRow ho hh hs
 have hg:=fun j=>getB_setB (B' :=B') hB j
 have hlen:(st.setB i B').blocks.length=st.blocks.length:=by simp[St.setB]
 have inj: ∀j c B1,getB st j=some B1→β j=some c→c=b→j=i:=by
  intro j c B1 h1 h2 h3
  subst h3
  obtain⟨c',h4,h5⟩:=R.blocks j B1 h1
  rw[h2] at h4;cases h4
  cases h5 with
  |cells fz _ _ _ _ _ _ _ h6=>rw[ho] at h6;cases fz<;>simp at h6;exact h6.symm
  |ints fz _ _ _ _ _ _ _ h6=>rw[ho] at h6;cases fz<;>simp at h6;exact h6.symm
 refine⟨⟨R.defers, ?_, ?_, ?_, ?_, ?_, ?_, ?_, ?_⟩,E⟩
 ·exact fun t x h=>(R.tmps t x h).mono E.sub E.wide (fun _ _ h=>h)
 ·intro j B1 h
  rw[hg j] at h
  by_cases ej:j=i
  ·subst ej
   rw[if_pos rfl] at h;cases h
   exact⟨b,hb,hB' E.sub E.wide⟩
  ·rw[if_neg ej] at h
   obtain⟨c,h1,h2⟩:=R.blocks j B1 h
   have hne:c≠b:=fun e=>ej (inj j c B1 h h1 e)
   exact⟨c,h1,h2.mono E.sub E.wide (fun _ _ h=>h) (setRow_other w b c arr' hne) rfl⟩
 ·intro j hj;rw[hlen] at hj;exact R.fresh j hj
 ·intro j hj h
  rw[hlen] at hj
  rw[hg j] at h
  by_cases ej:j=i
  ·rw[if_pos ej] at h;cases h
  ·rw[if_neg ej] at h;exact R.gone j hj h
 ·intro p hp x v hv
  have hp' :hasPl p st.owns=true:=hp
  have hv' :ValAt st a w β p x v:=by
   cases p with
   |t t=>exact hv
   |c t j=>exact hv
   |b k j=>
    by_cases ek:k=i
    ·subst ek;exact hown j hp' x v hv
    ·obtain⟨fz,cs,c,h1,h2,h3,h4⟩:=hv
     rw[hg k,if_neg ek] at h1
     have hne:c≠b:=fun e=>ek (inj k c _ h1 h3 e)
     exact⟨fz,cs,c,h1,h2,h3,by rw[←h4];exact(cell_of_heap (setRow_other w b c arr' hne) j).symm⟩
  intro sz hsz
  rcases R.owns p hp' x v hv' sz hsz with h0|⟨c,off,len,cap,h1,h2⟩
  ·exact .inl h0
  ·refine .inr ⟨c,off,len,cap,h1, ?_⟩
   rcases h2 with h2|⟨h2,h3,arr1,e1,h4,h5⟩
   ·exact .inl h2
   ·obtain⟨arr2,h6,h7⟩:=E.wide c arr1 e1 h4
    exact .inr ⟨h2,h3,arr2,e1,h6,h7.trans h5⟩
 ·intro k j h
  obtain⟨B1,h1⟩:=R.ob k j h
  rw[hg k]
  by_cases ek:k=i
  ·exact⟨B',by simp[ek]⟩
  ·exact⟨B1,by simp[ek,h1]⟩
 ·intro c r h
  obtain⟨arr1,e1,h1⟩:=R.plain c r h
  obtain⟨arr2,h2,_⟩:=E.wide c arr1 e1 h1
  exact⟨arr2,e1,h2⟩
 ·exact fun g cs h=>(R.glob g cs h).mono E.sub
theorem run_storeVar {t:Nat} {i:TI} {info:TypeInfo} {d:TypeDesc} {z:Value} (r:Row P t i info d z) {b off:Nat} {v:Value} (hz:v.cells.size=i.size)
  {arr:Array Value} {e:TypeId} (hh:w.heap[b]? =some (.cells arr e (0,0))) (hl:off+v.cells.size≤arr.size) (h1: ∀(j:Nat),j<v.cells.size→(v.cells.getD j undef).oneCell' =true):
  (storeVar t ⟨b,off,none⟩ v).run P w= .ok () (w.setRow b (arr.toList.take off++v.cells.toList++arr.toList.drop (off+v.cells.size)).toArray):=by
 have:=run_storeCells_at P b off e v.cells.toList 0 arr w hh (by simpa using hl) (fun x hx=>by
  obtain⟨k,hk,rfl⟩:=List.mem_iff_getElem.1 hx
  have hk' :k<v.cells.size:=by simpa using hk
  have:=h1 k hk'
  simpa[Array.getD,hk'] using this)
 simp only[Nat.add_zero,Array.length_toList] at this
 simp[storeVar,r.run_size,hz,this]
theorem splice_get {α:Type} (off:Nat) (new cs:List α) (h:off+new.length≤cs.length) (j:Nat):
  (splice off new cs)[j]? =if j<off then cs[j]? else if j<off+new.length then new[j-off]? else cs[j]? :=by
 unfold splice
 rw[List.append_assoc,List.getElem?_append,List.length_take,Nat.min_eq_left (by omega)]
 by_cases h1:j<off
 ·simp[h1]
 ·simp only[h1,if_false]
  rw[List.getElem?_append]
  by_cases h2:j<off+new.length
  ·have:j-off<new.length:=by omega
   simp[h2,this]
  ·have: ¬j-off<new.length:=by omega
   simp only[h2,this,if_false,List.getElem?_drop]
   congr 1;omega
theorem splice_length {α:Type} (off:Nat) (new cs:List α) (h:off+new.length≤cs.length):(splice off new cs).length=cs.length:=by
 simp[splice];omega
theorem getD_splice (off:Nat) (new:List Value) (arr:Array Value) (h:off+new.length≤arr.size) (j:Nat):
  ((splice off new arr.toList).toArray).getD j undef=if j<off then arr.getD j undef else if j<off+new.length then new.getD (j-off) undef else arr.getD j undef:=by
 have:=splice_get off new arr.toList (by simpa using h) j
 rw[←getD_toList,List.getD_eq_getElem?_getD,List.toList_toArray,this]
 split
 ·rw[←getD_toList,List.getD_eq_getElem?_getD]
 ·split
  ·rw[List.getD_eq_getElem?_getD]
  ·rw[←getD_toList,List.getD_eq_getElem?_getD]
theorem RepL.splice {arr new:Array Value} {cs ns:List V} {off:Nat} (h:RepL w own β arr cs) (hn:RepL w own β new ns) (hl:off+ns.length≤cs.length):
  RepL w own β (VM.splice off new.toList arr.toList).toArray (VM.splice off ns cs):=by
 have e1:new.toList.length=ns.length:=by simpa using hn.1
 have hl' :off+new.toList.length≤arr.size:=by rw[e1,h.1];exact hl
 refine⟨by simp[splice_length _ _ _ hl,splice_length off new.toList arr.toList (by simpa using hl'),h.1],fun j hj=> ?_,fun j x hx=> ?_⟩
 ·rw[getD_splice _ _ _ hl']
  simp[splice_length off new.toList arr.toList (by simpa using hl')] at hj
  by_cases c1:j<off
  ·rw[if_pos c1];exact h.2.1 j hj
  ·rw[if_neg c1]
   by_cases c2:j<off+new.toList.length
   ·rw[if_pos c2,getD_toList];exact hn.2.1 _ (by have:=hn.1;omega)
   ·rw[if_neg c2];exact h.2.1 j hj
 ·rw[splice_get _ _ _ hl] at hx
  rw[getD_splice _ _ _ hl',e1]
  split at hx
  ·rename_i h1;rw[if_pos h1];exact h.2.2 j x hx
  ·rename_i h1
   rw[if_neg h1]
   split at hx
   ·rename_i h2;rw[if_pos h2,getD_toList];exact hn.2.2 _ x hx
   ·rename_i h2;rw[if_neg h2];exact h.2.2 j x hx
theorem allI_some {k:IntKind}: ∀ {l:List V} {ns:List Int},allI k l=some ns→l=ns.map fun n=> .d (.int k n)
 |[],ns,h=>by simp[allI] at h;subst h;rfl
 |v::l,ns,h=>by
  unfold allI at h
  split at h
  ·rename_i heq;cases heq
  ·rename_i k' n l' heq
   cases heq
   cases hk:k==k' with
   |false=>rw[hk] at h;cases h
   |true=>
    rw[hk] at h
    simp only[cond_true] at h
    have:=eq_of_beq hk
    subst this
    split at h
    ·rename_i ns' h'
     cases h
     simp[allI_some h']
    ·cases h
  ·cases h
theorem store_sound (T:TOk P C.tt) (R:Rel C st a w own β) {t:Nat} {x y:Operand} (hop:o.op= .store t x y) (hd: ∀t,o.dst=some t→t<a.tmps.size) {slot:Option Nat}
  (h:evOp C slot o st=some st') (hn:Next C st w own β a.tmps.size st' next):o.wp P a w next Q:=by
 simp only[evOp,hop] at h
 split at h
 ·rename_i p v hp hv
  split at h
  ·rename_i st1 hst
   have hpr:=evO_sound R hp
   have hvr:=evO_sound R hv
   unfold evStore at hst
   split at hst
   ·rename_i _ _ _ i b off new hi hnew
    obtain⟨pb,hpb,hpe⟩:=inv_ptr hpr
    obtain⟨info,d,z,r⟩:=T.get hi
    have hnr:=cellsV_sound hvr hnew
    cases hl:Nat.beq new.length i.size with
    |false=>rw[hl] at hst;cases hst
    |true=>
     rw[hl] at hst
     simp only[cond_true] at hst
     have hlen:=Nat.eq_of_beq_eq_true hl
     have fin: ∀ {w1:World},(storeVar t ⟨pb,off,none⟩ (a.eval y)).run P w= .ok () w1→Rel C st1 a w1 own β→Ext w own w1 own→st1.blocks.length=st.blocks.length→
       (∀s,y= .tmp s→isSl v=true→ ∀x' v',ValAt st1 a w1 β (.b b off) x' v' →ValAt st1 a w1 β (.t s) x' v')→(∃B,getB st1 b=some B)→o.wp P a w next Q:=by
      intro w1 hrun R1 E1 hlen1 hcell hB1
      have hr:(execOp a.eval o).run P w= .ok .skip w1:=by
       simp[execOp,hop,Instr.storeAt,Instr.sureAddr,hpe,hrun]
      refine wp_nothing hr ?_
      split at h
      ·rename_i _ _ _ b' off' s heq hsl
       cases heq
       cases h
       obtain⟨own',R2,E2⟩:=R1.give (p:= .t s) (q:= .b b off) (fun h1 x' v' h2=>hcell s rfl hsl x' v' h2) (fun i j e=>by cases e;exact hB1)
       have R3:=R2.put (d:=o.dst) (x:= .skip) (v:=undef) (by exact hd) .skip
       exact hn _ _ _ _ R3 (E1.trans E2) (fun _ _ _ h=>h) (size_put a _ _)
      ·cases h
       have R3:=R1.put (d:=o.dst) (x:= .skip) (v:=undef) (by exact hd) .skip
       exact hn _ _ _ _ R3 E1 (fun _ _ _ h=>h) (size_put a _ _)
     split at hst
     ·rename_i cs hB
      cases hfit:Nat.ble (off+new.length) cs.length with
      |false=>rw[hfit] at hst;cases hst
      |true=>
       rw[hfit] at hst
       simp only[cond_true,Option.some.injEq] at hst
       have hle:=Nat.le_of_ble_eq_true hfit
       obtain⟨b',h1,h2⟩:=R.blocks _ _ hB
       rw[hpb] at h1;cases h1
       cases h2 with|cells _ _ arr e hh hs h1 hr ho=>
       have hsz:(a.eval y).cells.size=i.size:=by rw[hnr.1];exact hlen
       have hrun:=run_storeVar r hsz hh (off:=off) (by rw[hnr.1];omega) hnr.2.1
       let f:Pl→Bool:=fun| .b j o=>Nat.beq b j && Nat.ble off o && Nat.blt o (off+new.length)|_=>false
       have Rd:=R.disown f
       have hrl:RepL w own β arr cs:=⟨hs,h1,hr⟩
       have hspl:=hrl.splice hnr hle
       have esz:(VM.splice off (a.eval y).cells.toList arr.toList).toArray.size=arr.size:=by
        rw[hspl.1,splice_length _ _ _ hle,hs]
       obtain⟨R1,E1⟩:=Rd.write (B' := .cells false (splice off new cs)) hB hpb (by simpa using ho) hh esz (fun hsub hwide=>
        .cells false _ _ e (setRow_heap w pb arr _ e (0,0) hh) hspl.1 hspl.2.1 (fun j x hx=>(hspl.2.2 j x hx).mono hsub hwide (fun _ _ h=>h)) (by simpa using ho)) (by
        intro j hj x' v' hv'
        obtain⟨fz',cs',c,g1,g2,g3,g4⟩:=hv'
        rw[getB_setB (st:=st.disown f) hB,if_pos rfl] at g1
        simp only[Option.some.injEq,Blk.cells.injEq] at g1
        obtain⟨rfl,rfl⟩:=g1
        rw[hpb] at g3;cases g3
        have hout: ¬(off≤j∧j<off+new.length):=by
         have:=(hasPl_drop hj).2
         intro hin
         have e1:Nat.ble off j=true:=Nat.ble_eq_true_of_le hin.1
         have e2:Nat.blt j (off+new.length)=true:=by simpa[Nat.blt_eq] using hin.2
         have e3:Nat.beq b b=true:=Nat.beq_refl b
         simp[f,e1,e2,e3] at this
        rw[splice_get _ _ _ hle] at g2
        have g2' :cs[j]? =some x' :=by
         split at g2
         ·exact g2
         ·split at g2
          ·omega
          ·exact g2
        have hj' :j<arr.size:=by rw[hs];exact(List.getElem?_eq_some_iff.1 g2').1
        have hcell:=cell_of_block hh hj'
        have hcell' :=cell_of_block (setRow_heap w pb arr (VM.splice off (a.eval y).cells.toList arr.toList).toArray e (0,0) hh) (by rw[esz];exact hj')
        rw[hcell'] at g4
        have e4:(VM.splice off (a.eval y).cells.toList arr.toList).toArray.getD j undef=arr.getD j undef:=by
         rw[getD_splice _ _ _ (by rw[Array.length_toList,hnr.1];omega),Array.length_toList,hnr.1]
         split
         ·rfl
         ·split
          ·omega
          ·rfl
        rw[e4] at g4
        exact⟨false,cs,pb,hB,g2',hpb,by rw[hcell];exact g4⟩)
       have hst1:st1= { (st.disown f).setB b (.cells false (splice off new cs)) with owns:=(st.disown f).owns}:=by rw[←hst];rfl
       have R1' :Rel C st1 a (w.setRow pb (VM.splice off (a.eval y).cells.toList arr.toList).toArray) own β:=by rw[hst1];exact R1
       have harr:(arr.toList.take off++(a.eval y).cells.toList++arr.toList.drop (off+(a.eval y).cells.size)).toArray=(VM.splice off (a.eval y).cells.toList arr.toList).toArray:=by
        simp[VM.splice]
       rw[harr] at hrun
       have hgb:getB st1 b=some (.cells false (splice off new cs)):=by
        rw[hst1]
        have:=getB_setB (st:=st.disown f) (B' := .cells false (splice off new cs)) hB b
        rw[if_pos rfl] at this;exact this
       refine fin hrun R1' E1 (by rw[←hst];simp[St.setB]) (fun s hs' hsl x' v' hv' => ?_) ⟨_,hgb⟩
       obtain⟨fz',cs',c,g1,g2,g3,g4⟩:=hv'
       rw[hgb] at g1
       simp only[Option.some.injEq,Blk.cells.injEq] at g1
       obtain⟨rfl,rfl⟩:=g1
       rw[hpb] at g3;cases g3
       have hnew1:new=[v]:=by
        unfold isSl at hsl
        split at hsl
        ·simp[cellsV] at hnew;exact hnew.symm
        ·simp[cellsV] at hnew;exact hnew.symm
        ·cases hsl
       subst hnew1
       have hone:(a.eval y).cells= #[a.eval y]:=by
        refine cells_of_one ?_
        unfold isSl at hsl
        split at hsl
        ·exact one_of_rep (inv_d hvr) (fun cs e=>by cases e)
        ·exact one_of_rep (inv_d hvr) (fun cs e=>by cases e)
        ·cases hsl
       rw[splice_get _ _ _ hle] at g2
       simp at g2
       subst g2
       simp at hle
       have hcell' :=cell_of_block (setRow_heap w pb arr (VM.splice off (a.eval y).cells.toList arr.toList).toArray e (0,0) hh) (j:=off) (by rw[esz];omega)
       rw[hcell',getD_splice _ _ _ (by rw[hone];simp;omega),hone] at g4
       simp at g4
       subst hs'
       refine⟨?_,by rw[←g4];rfl⟩
       rw[←hst];exact hv
     ·rename_i k xs hB
      split at hst
      ·rename_i ns hns
       cases hfit:Nat.ble (off+ns.length) xs.length with
       |false=>rw[hfit] at hst;cases hst
       |true=>
        rw[hfit] at hst
        simp only[cond_true,Option.some.injEq] at hst
        have hle:=Nat.le_of_ble_eq_true hfit
        have hnew' :=allI_some hns
        have hnl:new.length=ns.length:=by rw[hnew'];simp
        obtain⟨b',h1,h2⟩:=R.blocks _ _ hB
        rw[hpb] at h1;cases h1
        cases h2 with|ints _ _ _ arr e hh hs hr ho=>
        have hsz:(a.eval y).cells.size=i.size:=by rw[hnr.1];exact hlen
        have hrun:=run_storeVar r hsz hh (off:=off) (by rw[hnr.1];omega) hnr.2.1
        have harr:(arr.toList.take off++(a.eval y).cells.toList++arr.toList.drop (off+(a.eval y).cells.size)).toArray=(VM.splice off (a.eval y).cells.toList arr.toList).toArray:=by
         simp[VM.splice]
        rw[harr] at hrun
        have esz:(VM.splice off (a.eval y).cells.toList arr.toList).toArray.size=arr.size:=by
         simp only[List.size_toArray]
         rw[splice_length _ _ _ (by simp[hnr.1];omega),Array.length_toList]
        have elen:=splice_length off ns xs hle
        obtain⟨R1,E1⟩:=R.write (B' := .ints false k (splice off ns xs)) hB hpb (by simpa using ho) hh esz (fun _ _=>
         .ints false k _ _ e (setRow_heap w pb arr _ e (0,0) hh) (by rw[esz,elen,hs]) (fun j x hx=>by
          rw[splice_get _ _ _ hle] at hx
          rw[getD_splice _ _ _ (by rw[Array.length_toList,hnr.1];omega),Array.length_toList,hnr.1,hnl]
          by_cases c1:j<off
          ·rw[if_pos c1] at hx⊢;exact hr j x hx
          ·rw[if_neg c1] at hx⊢
           by_cases c2:j<off+ns.length
           ·rw[if_pos c2] at hx⊢
            rw[getD_toList]
            have:=hnr.2.2 (j-off) (.d (.int k x)) (by rw[hnew'];simp[hx])
            exact inv_int this
           ·rw[if_neg c2] at hx⊢;exact hr j x hx) (by simpa using ho)) (by
         intro j hj x' v' hv'
         obtain⟨fz',cs',c,g1,g2,g3,g4⟩:=hv'
         rw[getB_setB hB,if_pos rfl] at g1
         cases g1)
        rw[hst] at R1
        have hgb:getB st1 b=some (.ints false k (splice off ns xs)):=by
         rw[←hst,getB_setB hB,if_pos rfl]
        refine fin hrun R1 E1 (by rw[←hst];simp[St.setB]) (fun s hs' hsl x' v' hv' => ?_) ⟨_,hgb⟩
        obtain⟨fz',cs',c,g1,g2,g3,g4⟩:=hv'
        rw[hgb] at g1;cases g1
      ·cases hst
     ·cases hst
   ·cases hst
  ·cases h
 ·cases h
end Go.VM
set_option linter.unusedSimpArgs false
set_option linter.unusedVariables false
namespace Go.VM
open Go
variable {P : Program} {C : Ctx} {st st' : St} {a : Act} {w : World} {own : Own} {β : Nat → Option Nat}
variable {o : Oper} {next : Act → World → Prop} {Q : Exit → Act → World → Prop}
theorem nilCheck_sound (R:Rel C st a w own β) {x:Operand} (hop:o.op= .nilCheck x) (hd: ∀t,o.dst=some t→t<a.tmps.size) {slot:Option Nat}
  (h:evOp C slot o st=some st') (hn:Next C st w own β a.tmps.size st' next):o.wp P a w next Q:=by
 simp only[evOp,hop] at h
 split at h
 ·rename_i f cs hv
  cases h
  have hr:=evO_sound R hv
  generalize he:a.eval x=v at hr
  have hr' :=hr
  cases hr with|fn _ arr _ hs hh=>
  have hrun:(execOp a.eval o).run P w= .ok (.value (.func (.func f) #[] arr)) w:=by
   simp[execOp,hop,he]
  exact wp_value hrun (next_put R hd hr' hn)
 ·rename_i v hne hv
  split at h
  ·rename_i hnil
   cases h
   have hr:=evO_sound R hv
   generalize he:a.eval x=u at hr
   have hr' :=hr
   unfold nilPtr at hnil
   split at hnil
   ·cases hnil
   ·obtain⟨b,off,rfl,_⟩:=inv_fp hr
    exact wp_value (by simp[execOp,hop,he]) (next_put R hd hr' hn)
   ·obtain⟨b,_,rfl⟩:=inv_ptr hr
    exact wp_value (by simp[execOp,hop,he]) (next_put R hd hr' hn)
   ·cases hr
    exact wp_value (by simp[execOp,hop,he]) (next_put R hd hr' hn)
   ·cases hnil
  ·cases h
 ·cases h
theorem wrap_wrap (k:IntKind) (n:Int):k.wrap (k.wrap n)=k.wrap n:=by
 cases k<;>simp only[IntKind.wrap,IntKind.signed,IntKind.bits]<;>simp<;>(repeat' split)<;>omega
theorem wrap_iff (k:IntKind) (n:Int):k.wrap n=n↔k.min≤n∧n≤k.max:=by
 cases k<;>simp only[IntKind.wrap,IntKind.signed,IntKind.bits,IntKind.min,IntKind.max]<;>simp<;>(repeat' split)<;>omega
theorem min_le_zero (k:IntKind):k.min≤0∧0≤k.max:=by cases k<;>decide
theorem wrap_between {k:IntKind} {x r:Int} (hx:k.wrap x=x) (h1:0≤x→0≤r∧r≤x) (h2:x<0→x≤r∧r≤0):k.wrap r=r:=by
 rw[wrap_iff] at hx⊢
 have:=min_le_zero k
 by_cases h:0≤x
 ·have:=h1 h;omega
 ·have:=h2 (by omega);omega
theorem wrap_tmod {k:IntKind} {x y:Int} (hx:k.wrap x=x):k.wrap (x.tmod y)=x.tmod y:=by
 refine wrap_between hx (fun h=>⟨Int.tmod_nonneg y h, ?_⟩) (fun h=> ?_)
 ·have:=Nat.mod_le x.natAbs y.natAbs
  rw[←Int.natAbs_tmod] at this
  have h0:=Int.tmod_nonneg y h
  omega
 ·have h0:=Int.tmod_nonneg y (a:= -x) (by omega)
  rw[Int.neg_tmod] at h0
  have:=Nat.mod_le x.natAbs y.natAbs
  rw[←Int.natAbs_tmod] at this
  omega
theorem evInt_sound {op:BinOp} {k:IntKind} {x y:Int} {r:D} (h:evInt op k x y=some r) (hx:k.wrap x=x) {t:TypeId}:
  ∃v,(binOp op t (.int k x) (.int k y)).run P w= .ok v w∧RepD w own v r:=by
 unfold evInt at h
 cases op<;>simp only at h
 case add=>cases h;exact⟨_,by simp[binOp,Op.intArith],.int _ _ (wrap_wrap _ _)⟩
 case sub=>cases h;exact⟨_,by simp[binOp,Op.intArith],.int _ _ (wrap_wrap _ _)⟩
 case mul=>cases h;exact⟨_,by simp[binOp,Op.intArith],.int _ _ (wrap_wrap _ _)⟩
 case quo=>
  cases h0:y==0 with
  |true=>rw[h0] at h;cases h
  |false=>
   rw[h0] at h;cases h
   have: ¬y=0:=by simpa using h0
   exact⟨_,by simp[binOp,Op.intDiv,this],.int _ _ (wrap_wrap _ _)⟩
 case rem=>
  cases h0:y==0 with
  |true=>rw[h0] at h;cases h
  |false=>
   rw[h0] at h;cases h
   have: ¬y=0:=by simpa using h0
   refine⟨.int k (x.tmod y),by simp[binOp,Op.intDiv,this], ?_⟩
   rw[wrap_tmod hx]
   exact .int _ _ (wrap_tmod hx)
 case eql=>cases h;exact⟨_,by simp[binOp,Op.intCmp],.bool _⟩
 case neq=>cases h;exact⟨_,by simp[binOp,Op.intCmp],.bool _⟩
 case lss=>cases h;exact⟨_,by simp[binOp,Op.intCmp],.bool _⟩
 case leq=>cases h;exact⟨_,by simp[binOp,Op.intCmp],.bool _⟩
 case gtr=>cases h;exact⟨_,by simp[binOp,Op.intCmp],.bool _⟩
 case geq=>cases h;exact⟨_,by simp[binOp,Op.intCmp],.bool _⟩
 case and=>simp only[intBitsI] at h;cases h;exact⟨_,by simp[binOp,Op.intBits],.int _ _ (wrap_wrap _ _)⟩
 case or=>simp only[intBitsI] at h;cases h;exact⟨_,by simp[binOp,Op.intBits],.int _ _ (wrap_wrap _ _)⟩
 case xor=>simp only[intBitsI] at h;cases h;exact⟨_,by simp[binOp,Op.intBits],.int _ _ (wrap_wrap _ _)⟩
 case andNot=>simp only[intBitsI] at h;cases h;exact⟨_,by simp[binOp,Op.intBits],.int _ _ (wrap_wrap _ _)⟩
 all_goals exact absurd h (by simp)
theorem wrap_fdiv {k:IntKind} {x:Int} (hx:k.wrap x=x) (n:Nat):k.wrap (x.fdiv (2^n))=x.fdiv (2^n):=by
 have hp:(0:Int)<2^n:=Int.pow_pos (by omega)
 have h1:(1:Int)≤2^n:=hp
 rw[Int.fdiv_eq_ediv_of_nonneg _ (by omega)]
 refine wrap_between hx (fun h=>⟨Int.ediv_nonneg h (by omega),Int.ediv_le_self _ h⟩) (fun h=> ?_)
 refine⟨?_,Int.le_of_lt (Int.ediv_neg_of_neg_of_pos h hp)⟩
 rw[Int.le_ediv_iff_mul_le hp]
 have:=Int.mul_le_mul_of_nonpos_left (show x≤0 by omega) h1
 simpa using this
theorem evShift_sound {op:BinOp} {k k' :IntKind} {x y:Int} {r:D} (h:evShift op k x y=some r) (hx:k.wrap x=x) {t:TypeId}:
  ∃v,(binOp op t (.int k x) (.int k' y)).run P w= .ok v w∧RepD w own v r:=by
 unfold evShift at h
 cases h0:decide (0≤y) with
 |false=>rw[h0] at h;cases h
 |true=>
  rw[h0] at h
  simp only[cond_true] at h
  have hy: ¬y<0:=by have:=of_decide_eq_true h0;omega
  cases op<;>simp only at h
  case shl=>cases h;exact⟨_,by simp[binOp,Op.shift,hy],.int _ _ (wrap_wrap _ _)⟩
  case shr=>cases h;exact⟨.int k (x.fdiv (2^min y.toNat k.bits)),by simp[binOp,Op.shift,hy],by rw[wrap_fdiv hx];exact .int _ _ (wrap_fdiv hx _)⟩
  all_goals exact absurd h (by simp)
end Go.VM
