/- The machine over values: the builtins, all. -/
import Derived.Test.YthpmkmogoejjpaaGreatDoorVMH
set_option linter.unusedSimpArgs false
set_option linter.unusedVariables false
namespace Go.VM
open Go
variable {P : Program} {C : Ctx} {st st' : St} {a : Act} {w : World} {own : Own} {β : Nat → Option Nat}
variable {o : Oper} {next : Act → World → Prop} {Q : Exit → Act → World → Prop}
theorem rep_goInt (w:World) (own:Own) (β:Nat→Option Nat) {n:Nat} (h:n≤maxLen):RepV w own β (goInt n) (.d (.int .i64 n)):=
 .d _ _ (.int _ _ (wrap_i64_nat h))
theorem len_val (T:TOk P C.tt) {t n:Nat} {x:V} {v:Value} (hv:RepV w own β v x) (h:lenV C t x=some n):
  (Builtin.len_ #[t] o.type #[v]).run P w= .ok (goInt n) w∧n≤maxLen:=by
 unfold lenV at h
 split at h
 ·cases h
 ·rename_i i hi
  obtain⟨info,d,z,r⟩:=T.get hi
  split at h
  ·rename_i hk
   cases h
   obtain⟨s,rfl,hs,hl⟩:=inv_str hv
   have hd:=r.str hk;subst hd
   subst hs
   refine⟨?_,hl⟩
   simp[Builtin.len_,r.run_und,bytesI]
  ·rename_i hk
   cases h
   have hd:=r.slice hk;subst hd
   cases hv with
   |d _ _ hv=>cases hv with
    |numsNil k=>exact⟨by simp[Builtin.len_,r.run_und],by simp⟩
    |numsE k ad cap hm=>exact⟨by simp[Builtin.len_,r.run_und],by simp⟩
    |nums k b o' len cap xs hl hc hm h hw=>subst hl;exact⟨by simp[Builtin.len_,r.run_und],by omega⟩
  ·rename_i hk
   cases h
   have hd:=r.slice hk;subst hd
   cases hv with
   |d _ _ hv=>cases hv with
    |slNil k=>exact⟨by simp[Builtin.len_,r.run_und],by simp⟩
    |slE k ad cap hm=>exact⟨by simp[Builtin.len_,r.run_und],by simp⟩
    |sl _ b o' len cap xs _ hl hc hm h hw=>subst hl;exact⟨by simp[Builtin.len_,r.run_und],by omega⟩
  ·rename_i hk
   cases h
   have hd:=r.slice hk;subst hd
   cases hv with
   |mu _ _ _ _ _ b aa hβ hs hc hm ha hb=>exact⟨by simp[Builtin.len_,r.run_und],by omega⟩
  ·rename_i hk
   rename_i _ n' e
   cases hle:Nat.ble n' 1000000 with
   |false=>rw[hle] at h;cases h
   |true=>
    rw[hle] at h
    cases h
    have hle:=Nat.le_of_ble_eq_true hle
    have hd:=r.arr hk;subst hd
    exact⟨by simp[Builtin.len_,r.run_und],by unfold maxLen;omega⟩
  ·cases h
theorem Rel.writeInts (R:Rel C st a w own β) {i b off:Nat} {k:IntKind} {xs ns:List Int} (hB:getB st i=some (.ints false k xs)) (hb:β i=some b) (hle:off+ns.length≤xs.length) (hw: ∀n∈ns,k.wrap n=n):
  ∃arr e,w.heap[b]? =some (.cells arr e (0,0))∧arr.size=xs.length∧
   Rel C (st.setB i (.ints false k (splice off ns xs))) a (w.setRow b (VM.splice off (ns.map (Value.int k)) arr.toList).toArray) own β∧
   Ext w own (w.setRow b (VM.splice off (ns.map (Value.int k)) arr.toList).toArray) own:=by
 obtain⟨b',h1,h2⟩:=R.blocks _ _ hB
 rw[hb] at h1;cases h1
 cases h2 with|ints _ _ _ arr e hh hs hr ho=>
 have esz:(VM.splice off (ns.map (Value.int k)) arr.toList).toArray.size=arr.size:=by
  simp only[List.size_toArray]
  rw[splice_length _ _ _ (by simp;omega),Array.length_toList]
 have elen:=splice_length off ns xs hle
 obtain⟨R1,E1⟩:=R.write (B' := .ints false k (splice off ns xs)) hB hb (by simpa using ho) hh esz (fun _ _=>
  .ints false k _ _ e (setRow_heap w b arr _ e (0,0) hh) (by rw[esz,elen,hs]) (fun j x hx=>by
   rw[splice_get _ _ _ hle] at hx
   rw[getD_splice _ _ _ (by simp;omega),List.length_map]
   by_cases c1:j<off
   ·rw[if_pos c1] at hx⊢;exact hr j x hx
   ·rw[if_neg c1] at hx⊢
    by_cases c2:j<off+ns.length
    ·rw[if_pos c2] at hx⊢
     refine⟨?_,hw x (List.mem_of_getElem? hx)⟩
     rw[List.getD_eq_getElem?_getD,List.getElem?_map,hx];rfl
    ·rw[if_neg c2] at hx⊢;exact hr j x hx) (by simpa using ho)) (by
  intro j hj x' v' hv'
  obtain⟨fz',cs',c,g1,g2,g3,g4⟩:=hv'
  rw[getB_setB hB,if_pos rfl] at g1
  cases g1)
 exact⟨arr,e,hh,hs,R1,E1⟩
theorem isRow1_inv {t:Nat} (h:isRow1 C t=true): ∃e s b z c q j,C.tt t=some ⟨.slice e,s,b,z,c,q⟩∧C.tt e=some j∧j.size=1:=by
 unfold isRow1 at h
 split at h
 ·rename_i e s b z c q ht
  split at h
  ·rename_i j hj
   exact⟨e,s,b,z,c,q,j,ht,hj,Nat.eq_of_beq_eq_true h⟩
  ·cases h
 ·cases h
theorem run_storeRow {i off len cap sz b:Nat} {ad:Addr} {arr:Array Value} {e:TypeId} {vs:List Value} (hc:len≤cap) (ha:cap≠0→ad=⟨b,off,none⟩) (hh:w.heap[b]? =some (.cells arr e (0,0)))
  (hl:vs.length≤len) (hle:off+vs.length≤arr.size) (h1: ∀v∈vs,v.oneCell' =true):
  (storeCells ad vs).run P w= .ok () (w.setRow b (VM.splice off vs arr.toList).toArray):=by
 by_cases h0:cap=0
 ·have:vs=[]:=List.eq_nil_of_length_eq_zero (by omega)
  subst this
  have:(VM.splice off ([]:List Value) arr.toList).toArray=arr:=by simp[VM.splice]
  rw[this,setRow_self w b arr e (0,0) hh]
  rfl
 ·rw[ha h0]
  have:=run_storeCells_at P b off e vs 0 arr w hh (by simpa using hle) h1
  simpa[VM.splice] using this
theorem copy_sound (T:TOk P C.tt) (R:Rel C st a w own β) {x y:Operand} {t u:Nat} (hop:o.op= .call {callee:= .builtin .copy,args:= #[x,y],argTypes:= #[t,u] })
  (hd: ∀t,o.dst=some t→t<a.tmps.size) (h:evBuiltin C st o.dst .copy [x,y] [t,u]=some st') (hn:Next C st w own β a.tmps.size st' next):o.wp P a w next Q:=by
 simp only[evBuiltin] at h
 split at h
 ·rename_i i off len cap sz s hx hs
  split at h
  ·rename_i hsrc hrow
   split at h
   ·rename_i k xs hB
    split at h
    ·rename_i ys hys
     cases hck:Nat.ble (off+(ys.take len).length) xs.length && Nat.beq sz 1 with
     |false=>rw[hck] at h;cases h
     |true=>
      rw[hck] at h
      simp only[cond_true,Option.some.injEq] at h
      rw[Bool.and_eq_true] at hck
      have hle:=Nat.le_of_ble_eq_true hck.1
      obtain⟨e,s1,b1,z1,c1,q1,j,ht,hj,hj1⟩:=isRow1_inv hrow
      obtain⟨_,_,_,row⟩:=T.get ht
      have:=row.slice rfl;subst this
      obtain⟨_,_,_,rowj⟩:=T.get hj
      obtain⟨hS,hyw,hym⟩:=src_nums (P:=P) R (evO_sound R hs) hys
      have hxr:=evO_sound R hx
      generalize hux:a.eval x=ux at hxr
      cases hxr with
      |mu _ _ _ _ _ b ad hβ hsp hc hm ha hb0=>
       obtain⟨arr,e',hh,hsz,R1,E1⟩:=R.writeInts (off:=off) (ns:=ys.take len) hB hβ hle (fun n hn' =>hyw n (List.mem_of_mem_take hn'))
       have hmin:Nat.min ys.length len≤ys.length:=Nat.min_le_left ..
       have hf:=hS.first (Nat.min ys.length len) w hmin (fun _ _=>rfl)
       have hnews:(ys.map (Value.int k)).take (Nat.min ys.length len*1)=(ys.take len).map (Value.int k):=by
        rw[Nat.mul_one,←List.map_take]
        congr 1
        show ys.take (min ys.length len)=_
        rcases Nat.le_total ys.length len with h1|h1
        ·rw[Nat.min_eq_left h1,List.take_of_length_le (Nat.le_refl _),List.take_of_length_le h1]
        ·rw[Nat.min_eq_right h1]
       rw[hnews] at hf
       have hlen:Nat.min ys.length len=(ys.take len).length:=by
        rw[List.length_take,Nat.min_comm]
       have hst:=run_storeRow (P:=P) (i:=i) (sz:=sz) (vs:=(ys.take len).map (Value.int k)) hc ha hh (by simp;omega) (by rw[hsz];simpa using hle) (fun v hv=>by
        rw[List.mem_map] at hv
        obtain⟨z,_,rfl⟩:=hv;rfl)
       have hr:(execOp a.eval o).run P w= .ok (.value (goInt (ys.take len).length)) (w.setRow b (VM.splice off ((ys.take len).map (Value.int k)) arr.toList).toArray):=by
        simp only[execOp,hop,resolve,Sem.run_bind,invoke,builtin]
        have hf' :(Builtin.firstCells 1 (min len ys.length) (a.eval y)).run P w= .ok (List.take len (List.map (Value.int k) ys)).toArray w:=by
         rw[←List.map_take,←hf,Nat.min_comm]
        have hst' :(storeCells ad (List.take len (List.map (Value.int k) ys))).run P w= .ok () (w.setRow b (VM.splice off (List.take len (List.map (Value.int k) ys)) arr.toList).toArray):=by
         rw[←List.map_take];exact hst
        simp[Builtin.copy_,row.run_und,hS.len,rowj.run_size,hj1,hf',hst',hux,hlen]
       refine wp_value hr ?_
       subst h
       have R2:=R1.put (d:=o.dst) (x:= .d (.int .i64 (ys.take len).length)) (v:=goInt (ys.take len).length) hd (rep_goInt _ _ _ (by rw[List.length_take];omega))
       exact hn _ _ _ _ R2 E1 (fun _ _ _ h=>h) (size_put a _ _)
    ·cases h
   ·cases h
  ·cases h
 ·cases h
theorem clear_sound (T:TOk P C.tt) (R:Rel C st a w own β) {x:Operand} {t:Nat} (hop:o.op= .call {callee:= .builtin .clear,args:= #[x],argTypes:= #[t] })
  (hd: ∀t,o.dst=some t→t<a.tmps.size) (h:evBuiltin C st o.dst .clear [x] [t]=some st') (hn:Next C st w own β a.tmps.size st' next):o.wp P a w next Q:=by
 simp only[evBuiltin] at h
 split at h
 ·rename_i i off len cap sz hx
  split at h
  ·rename_i hrow
   split at h
   ·rename_i k xs hB
    cases hck:Nat.ble (off+len) xs.length && Nat.beq sz 1 && isRowK C t k with
    |false=>rw[hck] at h;cases h
    |true=>
     rw[hck] at h
     simp only[cond_true,Option.some.injEq] at h
     rw[Bool.and_eq_true,Bool.and_eq_true] at hck
     have hle:=Nat.le_of_ble_eq_true hck.1.1
     obtain⟨e,s1,b1,z1,c1,q1,j,ht,hj,hj1⟩:=isRow1_inv hrow
     have hk:j.k= .int k:=by
      have:=hck.2
      simp only[isRowK,ht,hj] at this
      split at this
      ·rename_i heq
       cases heq
       have:=eq_of_beq this
       subst this;rfl
      ·cases this
     obtain⟨_,_,_,row⟩:=T.get ht
     have:=row.slice rfl;subst this
     obtain⟨_,_,zj,rowj⟩:=T.get hj
     have hxr:=evO_sound R hx
     generalize hux:a.eval x=ux at hxr
     cases hxr with
     |mu _ _ _ _ _ b ad hβ hsp hc hm ha hb0=>
      have hle' :off+(List.replicate len (0:Int)).length≤xs.length:=by simpa using hle
      obtain⟨arr,e',hh,hsz,R1,E1⟩:=R.writeInts (off:=off) (ns:=List.replicate len 0) hB hβ hle' (fun n hn' =>by
       rw[List.mem_replicate] at hn'
       obtain⟨_,rfl⟩:=hn'
       cases k<;>rfl)
      have hz:=rowj.run_zero (w:=w)
      have hzs:zj.cells.size=1:=by
       obtain⟨z,hz',hzr,hzs⟩:=repL_zero (w:=w) (own:=own) (β:=β) T hj
       have:=hz' w
       rw[hz] at this;cases this
       rw[hzs,hj1]
      have hz0:zj.cells.getD 0 undef= .int k 0:=rowj.zeroInt hk
      have hcells:(Builtin.zeroCells zj.cells len).toList=(List.replicate len (0:Int)).map (Value.int k):=by
       have e0:zj.cells= #[Value.int k 0]:=by
        apply Array.ext
        ·simpa using hzs
        ·intro m h1 h2
         have:m=0:=by simp at h2;exact h2
         subst this
         have h3:zj.cells.getD 0 undef=zj.cells[0]:=by simp[Array.getD,h1]
         rw[←h3,hz0];rfl
       rw[e0]
       simp only[Builtin.zeroCells]
       apply List.ext_getElem?
       intro m
       simp
       by_cases hm1:m<len
       ·simp[hm1,Nat.mod_one]
       ·simp[hm1]
      have hst:=run_storeRow (P:=P) (i:=i) (sz:=sz) (vs:=(List.replicate len (0:Int)).map (Value.int k)) hc ha hh (by simp) (by rw[hsz];simpa using hle) (fun v hv=>by
       rw[List.mem_map] at hv
       obtain⟨z,_,rfl⟩:=hv;rfl)
      have hr:(execOp a.eval o).run P w= .ok (.value (.tuple #[])) (w.setRow b (VM.splice off ((List.replicate len (0:Int)).map (Value.int k)) arr.toList).toArray):=by
       simp only[execOp,hop,resolve,Sem.run_bind,invoke,builtin]
       by_cases hl0:len=0
       ·subst hl0
        have:(VM.splice off ([]:List Value) arr.toList).toArray=arr:=by simp[VM.splice]
        simp[Builtin.clear_,row.run_und,hux,this,setRow_self w b arr e' (0,0) hh]
       ·rw[List.map_replicate] at hst
        simp[Builtin.clear_,row.run_und,hux,hz,hcells,hst]
      refine wp_value hr ?_
      subst h
      have R2:=R1.put (d:=o.dst) (x:= .tup []) (v:= .tuple #[]) hd (.tup #[] [] rfl (fun j x h=>by simp at h))
      exact hn _ _ _ _ R2 E1 (fun _ _ _ h=>h) (size_put a _ _)
   ·cases h
  ·cases h
 ·cases h
theorem arrayAt_sound (T:TOk P C.tt) (R:Rel C st a w own β) {t:Nat} {x:Operand} (hop:o.op= .sliceToArrayPointer t x) (hd: ∀t,o.dst=some t→t<a.tmps.size) {slot:Option Nat}
  (h:evOp C slot o st=some st') (hn:Next C st w own β a.tmps.size st' next):o.wp P a w next Q:=by
 simp only[evOp,hop] at h
 split at h
 ·rename_i v hv
  split at h
  ·rename_i p hp
   cases h
   have hvr:=evO_sound R hv
   unfold evArrayAt at hp
   split at hp
   ·rename_i n e _ _ _ _ _ ht
    obtain⟨_,_,_,row⟩:=T.get ht
    have:=row.arr rfl;subst this
    cases hpos:Nat.blt 0 n with
    |false=>rw[hpos] at hp;cases hp
    |true=>
     rw[hpos] at hp
     have hpos:0<n:=by simpa[Nat.blt_eq] using hpos
     simp only[cond_true] at hp
     split at hp
     ·rename_i i off len cap sz
      cases hle:Nat.ble n len with
      |false=>rw[hle] at hp;cases hp
      |true=>
       rw[hle] at hp
       cases hp
       have hle:=Nat.le_of_ble_eq_true hle
       generalize hux:a.eval x=ux at hvr
       cases hvr with
       |mu _ _ _ _ _ b ad hβ hsp hc hm ha hb0=>
        have had:=ha (by omega)
        subst had
        have hr:(execOp a.eval o).run P w= .ok (.value (.pointer (some ⟨b,off,none⟩))) w:=by
         have: ¬len<n:=by omega
         simp[execOp,hop,Instr.arrayAt,row.run_und,hux,this]
        exact wp_value hr (next_put R hd (.ptr i off b hβ) hn)
     ·rename_i k xs
      cases hle:Nat.ble n xs.length with
      |false=>rw[hle] at hp;cases hp
      |true=>
       rw[hle] at hp
       cases hp
       have hle:=Nat.le_of_ble_eq_true hle
       have hvd:=inv_d hvr
       generalize hux:a.eval x=ux at hvd
       cases hvd with
       |numsE _ ad cap hm=>simp at hle;omega
       |nums _ b off len cap _ hl hc hm hf hw=>
        have hr:(execOp a.eval o).run P w= .ok (.value (.pointer (some ⟨b,off,none⟩))) w:=by
         have: ¬len<n:=by omega
         simp[execOp,hop,Instr.arrayAt,row.run_und,hux,this]
        refine wp_value hr (next_put R hd (.d _ _ (.fp b off _ (fun j=> .int k (xs.getD j 0)) (fun j x hx=> ?_) (fun j x hx=> ?_))) hn)
        ·simp only[List.getElem?_map,Option.map_eq_some_iff] at hx
         obtain⟨z,hz,rfl⟩:=hx
         have:=hf j z hz
         rw[List.getD_eq_getElem?_getD,hz];exact this
        ·simp only[List.getElem?_map,Option.map_eq_some_iff] at hx
         obtain⟨z,hz,rfl⟩:=hx
         rw[List.getD_eq_getElem?_getD,hz];exact .int k z (hw j z hz)
     ·cases hp
   ·cases hp
  ·cases h
 ·cases h
theorem builtin_sound (T:TOk P C.tt) (R:Rel C st a w own β) {c:Call} {b:Builtin} (hop:o.op= .call c) (hc:c.callee= .builtin b)
  (hd: ∀t,o.dst=some t→t<a.tmps.size) (h:evBuiltin C st o.dst b c.args.toList c.argTypes.toList=some st')
  (hn:Next C st w own β a.tmps.size st' next):o.wp P a w next Q:=by
 obtain⟨callee,⟨args⟩,⟨tys⟩⟩:=c
 simp only at hc h
 subst hc
 have h0:=h
 unfold evBuiltin at h
 split at h
 ·rename_i x t
  split at h
  ·rename_i v hv
   split at h
   ·rename_i n hl
    cases h
    obtain⟨h1,h2⟩:=len_val (o:=o) T (evO_sound R hv) hl
    refine wp_value (v:=goInt n) (w' :=w) ?_ (next_put R hd (rep_goInt w own β h2) hn)
    simp only[execOp,hop,resolve,Sem.run_bind,invoke,builtin]
    simp[h1]
   ·cases h
  ·cases h
 ·rename_i x y ts
  split at h
  ·rename_i k n k' m hx hy
   split at h
   ·rename_i hk
    have hk:=eq_of_beq hk
    subst hk
    cases h
    obtain⟨e1,w1⟩:=inv_int (evO_sound R hx)
    obtain⟨e2,w2⟩:=inv_int (evO_sound R hy)
    refine wp_value (v:= .int k (minI n m)) (w' :=w) ?_ (next_put R hd (.d _ _ (.int _ _ ?_)) hn)
    ·simp only[execOp,hop,resolve,Sem.run_bind,invoke,builtin]
     simp[Builtin.min_,Builtin.min2,e1,e2,minI]
    ·unfold minI
     cases decide (m<n)<;>simp[w1,w2]
   ·cases h
  ·cases h
 ·rename_i x y ts
  split at h
  ·rename_i k n k' m hx hy
   split at h
   ·rename_i hk
    have hk:=eq_of_beq hk
    subst hk
    cases h
    obtain⟨e1,w1⟩:=inv_int (evO_sound R hx)
    obtain⟨e2,w2⟩:=inv_int (evO_sound R hy)
    refine wp_value (v:= .int k (maxI n m)) (w' :=w) ?_ (next_put R hd (.d _ _ (.int _ _ ?_)) hn)
    ·simp only[execOp,hop,resolve,Sem.run_bind,invoke,builtin]
     simp[Builtin.max_,Builtin.max2,e1,e2,maxI]
    ·unfold maxI
     cases decide (m>n)<;>simp[w1,w2]
   ·cases h
  ·cases h
 ·exact append_sound T R hop hd h0 hn
 ·exact copy_sound T R hop hd h0 hn
 ·exact clear_sound T R hop hd h0 hn
 ·cases h
end Go.VM
set_option linter.unusedSimpArgs false
set_option linter.unusedVariables false
namespace Go.VM
open Go
variable {P : Program} {C : Ctx} {st st' : St} {a : Act} {w : World} {own : Own} {β : Nat → Option Nat}
variable {o : Oper} {next : Act → World → Prop} {Q : Exit → Act → World → Prop}
def farAll (own:Own):Own:=fun b=>match own b with
 |some (_,n)=>some (.far,n)
 |none=>none
theorem farAll_some {b:Nat} {ow:Ow} {n:Nat} (h:own b=some (ow,n)):farAll own b=some (.far,n):=by simp[farAll,h]
theorem farAll_none {b:Nat} (h:own b=none):farAll own b=none:=by simp[farAll,h]
theorem sub_farAll:Sub w own w (farAll own):=fun b o v h=>⟨h.cell,fun ow n hb=>by
 cases h1:own b with
 |none=>rw[farAll_none h1] at hb;cases hb
 |some s=>
  obtain⟨ow',m⟩:=s
  rw[farAll_some h1] at hb;cases hb
  exact h.ok _ _ h1,h.one⟩
structure Given (w : World) (own : Own) (vs : Array Value) (xs : List V) : Prop where
 size:vs.size=xs.length
 rep: ∀(j:Nat) (x:V),xs[j]? =some x→RepV w own (fun _=>none) (vs.getD j undef) x
structure Back (w : World) (own : Own) (w' : World) (own' : Own) (v : Value) (r : Ret) : Prop where
 ext:Ext w own w' own'
 plain: ∀b s,own' b=some s→ ∃arr e,w'.heap[b]? =some (.cells arr e (0,0))
 vals: ∃vs:Array Value,Given w' own' vs r.vals∧v=(if vs.size=1 then vs.getD 0 undef else .tuple vs)∧
  ∀j∈r.own,∀x,r.vals[j]? =some x→OwnsAt w' own' (.c 0 j) (vs.getD j undef) x
def SoundB (P:Program) (glob:Nat→Option (List D)) (f:FuncId) (args:List V) (r:Ret):Prop:=
 (∃fn,P.funcs[f]? =some fn∧(fn.name== "runtime.NumGoroutine")=false∧fn.body.isNone=false)∧
 ∀cargs w own,Given w own cargs args→(∀g cs,glob g=some cs→RepC w own g 0 cs)→
  (∀b s,own b=some s→ ∃arr e,w.heap[b]? =some (.cells arr e (0,0)))→(∀b ow n,own b=some (ow,n)→ow= .far)→
  Calls P f cargs w fun e w' => ∃v own',e= .returned v∧Back w own w' own' v r
def SoundN (P:Program) (glob:Nat→Option (List D)) (f:FuncId) (args:List V) (r:Ret):Prop:=
 ∀cargs w own,Given w own cargs args→(∀g cs,glob g=some cs→RepC w own g 0 cs)→
  (∀b s,own b=some s→ ∃arr e,w.heap[b]? =some (.cells arr e (0,0)))→(∀b ow n,own b=some (ow,n)→ow= .far)→
  ∃v,(callFunc f cargs).run P w= .ok (.value v) w∧Back w own w own v r
def Sound (P:Program) (glob:Nat→Option (List D)) (f:FuncId) (args:List V) (r:Ret):Prop:=SoundB P glob f args r∨SoundN P glob f args r
def SoundP (P:Program) (glob:Nat→Option (List D)) (f:FuncId) (args:List V) (bs:List (Option Blk)) (bo:List Pl) (h:Hand):Prop:=
 (∃fn,P.funcs[f]? =some fn∧(fn.name== "runtime.NumGoroutine")=false∧fn.body.isNone=false)∧
 ∀(C:Ctx) cargs w own β,C.glob=glob→cargs.size=args.length→Rel C {tmps:=argsT 0 args,blocks:=bs,owns:=bo} {tmps:=cargs,defers:=[] } w own β→
  Calls P f cargs w fun e w' => ∃v own' β',e= .returned v∧Ext w own w' own' ∧(∀k,k<bs.length→ ∀b,β k=some b→β' k=some b)∧
   ∃vs:Array Value,vs.size=h.vals.length∧v=(if vs.size=1 then vs.getD 0 undef else .tuple vs)∧
    Rel C {tmps:=argsT 0 h.vals,blocks:=h.blocks,owns:=h.bown} {tmps:=vs,defers:=[] } w' own' β' ∧
    ∀j∈h.own,∀x,h.vals[j]? =some x→OwnsAt w' own' (.c 0 j) (vs.getD j undef) x
def CallsOk (P:Program) (C:Ctx):Prop:=(∀f args r,C.call f args=some r→Sound P C.glob f args r)∧
 ∀f args bs bo h,C.callP f args bs bo=some h→SoundP P C.glob f args bs bo h
theorem refsL_append: ∀ {xs ys:List V},refsL (xs++ys)=refsL xs++refsL ys
 |[],ys=>by simp[refsL]
 |x::xs,ys=>by simp[refsL,refsL_append (xs:=xs)]
theorem refsL_mem: ∀ {xs:List V},refsL xs=[]→ ∀(j:Nat) (x:V),xs[j]? =some x→refs x=[]
 |[],_,j,x,h=>by simp at h
 |y::ys,h,j,x,hj=>by
  simp only[refsL,List.append_eq_nil_iff] at h
  cases j with
  |zero=>simp at hj;subst hj;exact h.1
  |succ j=>exact refsL_mem h.2 j x (by simpa using hj)
theorem RepV.noref {v:Value} {x:V} (h:RepV w own β v x):refs x=[]→ ∀β',RepV w own β' v x:=by
 induction h with
 |any v=>intro _ _;exact .any v
 |skip=>intro _ _;exact .skip
 |d v x h=>intro _ _;exact .d v x h
 |ptr i off b h=>intro h0;simp[refs] at h0
 |mu i off len cap sz b a h hs hc hm ha hb=>intro h0;simp[refs] at h0
 |gp g off=>intro _ _;exact .gp g off
 |fn f arr cs hs hr ih=>intro h0 β';simp only[refs] at h0;exact .fn f arr cs hs (fun j x hx=>ih j x hx (refsL_mem h0 j x hx) β')
 |agg arr cs hs h1 hr ih=>intro h0 β';simp only[refs] at h0;exact .agg arr cs hs h1 (fun j x hx=>ih j x hx (refsL_mem h0 j x hx) β')
 |tup arr cs hs hr ih=>intro h0 β';simp only[refs] at h0;exact .tup arr cs hs (fun j x hx=>ih j x hx (refsL_mem h0 j x hx) β')
theorem argV_sound (R:Rel C st a w own β) {v x:V} (h:argV C st v=some (x,st')) {u:Value} (hu:RepV w own β u v):
  ∃own',Rel C st' a w own' β∧Ext w own w own' ∧RepV w own' β u x∧st'.tmps=st.tmps∧st'.blocks.length=st.blocks.length:=by
 unfold argV at h
 split at h
 ·cases h;exact⟨own,R,Ext.refl w own,hu,rfl,rfl⟩
 ·split at h
  ·cases h;exact⟨own,R,Ext.refl w own,hu,rfl,rfl⟩
  ·cases h
 ·split at h
  ·cases h;exact⟨own,R,Ext.refl w own,hu,rfl,rfl⟩
  ·cases h
 ·split at h
  ·rename_i y s1 hy
   cases h
   obtain⟨own',R',E',h1,h2,h3⟩:=asD_sound R hy hu
   exact⟨own',R',E',.d _ _ h1,h2,h3⟩
  ·cases h
theorem evArgs_sound: ∀ {xs:List Operand} {ts:List Nat} {vs:List V} {st st' :St} {own:Own},Rel C st a w own β→evArgs C st xs ts=some (vs,st')→
  ∃own',Rel C st' a w own' β∧Ext w own w own' ∧st'.tmps=st.tmps∧st'.blocks.length=st.blocks.length∧vs.length=xs.length∧
   ∀(j:Nat) (v:V),vs[j]? =some v→RepV w own' β ((xs.map a.eval).getD j undef) v
 |[],ts,vs,st,st',own,R,h=>by
  simp only[evArgs,Option.some.injEq,Prod.mk.injEq] at h
  obtain⟨rfl,rfl⟩:=h
  exact⟨own,R,Ext.refl w own,rfl,rfl,rfl,fun j v h=>by simp at h⟩
 |x::xs,ts,vs,st,st',own,R,h=>by
  simp only[evArgs] at h
  split at h
  ·rename_i v hv
   split at h
   ·rename_i y s1 hy
    split at h
    ·rename_i ys s2 hys
     cases h
     obtain⟨own1,R1,E1,r1,t1,l1⟩:=argV_sound R hy (evO_sound R hv)
     obtain⟨own2,R2,E2,t2,l2,n2,r2⟩:=evArgs_sound R1 hys
     refine⟨own2,R2,E1.trans E2,t2.trans t1,l2.trans l1,by simp[n2],fun j v h=> ?_⟩
     cases j with
     |zero=>simp at h;subst h;exact r1.mono E2.sub E2.wide (fun _ _ h=>h)
     |succ j=>simpa using r2 j v (by simpa using h)
    ·cases h
   ·cases h
  ·cases h
def backOwn (own own' :Own) (f:Pl→Pl):Own:=fun b=>match own b with
 |some s=>some s
 |none=>relabel f own' b
section
variable {w' : World} {own' : Own} {v : Value} {r : Ret} {f : Pl → Pl}
theorem backOwn_some {b:Nat} {s:Ow×Nat} (h:own b=some s):backOwn own own' f b=some s:=by simp[backOwn,h]
theorem backOwn_none {b:Nat} (h:own b=none):backOwn own own' f b=relabel f own' b:=by simp[backOwn,h]
theorem ext_back (E:Ext w (farAll own) w' own'):Ext w own w' (backOwn own own' f) where
 os:=E.os
 tape:=E.tape
 output:=E.output
 size:=E.size
 free b hb ho:=by
  obtain⟨h1,h2⟩:=E.free b hb (farAll_none ho)
  exact⟨h1,by rw[backOwn_none ho];exact relabel_none.2 h2⟩
 part b ow n hb ho:=by
  obtain⟨h1,h2⟩:=E.far b n (farAll_some ho)
  refine⟨fun o _=>cell_of_heap h1 o,fun ow' n' h=> ?_⟩
  rw[backOwn_some ho] at h;cases h;exact Nat.le_refl _
 wide:=E.wide
 far b n ho:=⟨(E.far b n (farAll_some ho)).1,backOwn_some ho⟩
theorem sub_back (E:Ext w (farAll own) w' own'):Sub w' own' w' (backOwn own own' f):=fun b o u h=>⟨h.cell,fun ow n hb=>by
 cases ho:own b with
 |some s=>
  obtain⟨ow',m⟩:=s
  rw[backOwn_some ho] at hb;cases hb
  exact h.ok _ _ (E.far b _ (farAll_some ho)).2
 |none=>
  rw[backOwn_none ho] at hb
  exact(okc_relabel.2 h.ok) _ _ hb,h.one⟩
theorem Rel.back (R:Rel C st a w own β) (E:Ext w (farAll own) w' own') (hp: ∀b s,own' b=some s→ ∃arr e,w'.heap[b]? =some (.cells arr e (0,0))):
  Rel C st a w' (backOwn own own' f) β:=by
 refine R.ext (ext_back E) (fun i B b hB hb=> ?_) (fun b p n h=>backOwn_some h) (fun b s h=> ?_)
 ·have hlt:=R.β_lt hB hb
  cases ho:own b with
  |some s=>
   obtain⟨ow,n⟩:=s
   exact⟨(E.far b n (farAll_some ho)).1,backOwn_some ho⟩
  |none=>exact(ext_back (f:=f) E).free b hlt ho
 ·cases ho:own b with
  |some s' =>
   obtain⟨arr,e,h1⟩:=R.plain b s' ho
   obtain⟨arr',h2,_⟩:=E.wide b arr e h1
   exact⟨arr',e,h2⟩
  |none=>
   rw[backOwn_none ho] at h
   cases h1:own' b with
   |none=>rw[relabel_none.2 h1] at h;cases h
   |some s' =>exact hp b s' h1
theorem owns_back (E:Ext w (farAll own) w' own') {p:Pl} {u:Value} {x:V} (h:OwnsAt w' own' p u x):OwnsAt w' (backOwn own own' f) (f p) u x:=by
 intro sz hsz
 rcases h sz hsz with h0|⟨b,o,len,cap,h1,h2⟩
 ·exact .inl h0
 ·refine .inr ⟨b,o,len,cap,h1, ?_⟩
  rcases h2 with h2|⟨h2,h3,h4⟩
  ·exact .inl h2
  ·refine .inr ⟨h2, ?_,h4⟩
   have ho:own b=none:=by
    cases ho:own b with
    |none=>rfl
    |some s=>
     obtain⟨ow,n⟩:=s
     rw[(E.far b n (farAll_some ho)).2] at h3;cases h3
   rw[backOwn_none ho]
   simp[relabel,h3]
end
theorem Rel.ownMore (R:Rel C st a w own β) {l:List Pl} (h: ∀p∈l,∀x v,ValAt st a w β p x v→OwnsAt w own p v x) (hb: ∀i j,Pl.b i j∉l):
  Rel C {st with owns:=l++st.owns} a w own β:=by
 refine⟨R.defers,R.tmps,R.blocks,R.fresh,R.gone, ?_,fun i j hp=> ?_,R.plain,R.glob⟩
 ·intro p hp x v hv
  have hv' :ValAt st a w β p x v:=by cases p<;>exact hv
  rcases List.mem_append.1 (hasPl_iff.1 hp) with hp|hp
  ·exact h p hp x v hv'
  ·exact R.owns p (hasPl_iff.2 hp) x v hv'
 ·rcases List.mem_append.1 (hasPl_iff.1 hp) with hp|hp
  ·exact absurd hp (hb i j)
  ·exact R.ob i j (hasPl_iff.2 hp)
theorem hasNat_iff {n:Nat}: ∀ {l:List Nat},hasNat n l=true↔n∈l
 |[]=>by simp[hasNat]
 |m::l=>by
  simp only[hasNat,List.mem_cons]
  cases h:Nat.beq n m with
  |true=>simp[Nat.eq_of_beq_eq_true h]
  |false=>
   have hne:n≠m:=fun e=>by rw[e,Nat.beq_refl] at h;cases h
   simp[hne,hasNat_iff (l:=l)]
theorem mem_ownC {d:Nat} {p:Pl}: ∀ {l:List Nat},p∈ownC d l↔ ∃j∈l,p= .c d j
 |[]=>by simp[ownC]
 |j::l=>by simp[ownC,mem_ownC (l:=l)]
theorem next_ret {w' :World} {own' :Own} {r:Ret} {v:Value} (R:Rel C st a w own β) (hd: ∀t,o.dst=some t→t<a.tmps.size) (B:Back w (farAll own) w' own' v r)
  (hn:Next C st w own β a.tmps.size (st.putRet o.dst r) next):next (a.put o.dst v) w' :=by
 obtain⟨E,hp,vs,⟨hsz,hrep⟩,hv,hown⟩:=B
 have key: ∀(f:Pl→Pl) (st2:St),st.putRet o.dst r=st2→Rel C st2 (a.put o.dst v) w' (backOwn own own' f) β→next (a.put o.dst v) w' :=
  fun f st2 e R2=>hn _ _ _ _ (e▸R2) (ext_back E) (fun _ _ _ h=>h) (size_put a _ _)
 by_cases h1: ∃x,r.vals=[x]
 ·obtain⟨x,hx⟩:=h1
  rw[hx] at hsz hrep hown
  simp only[List.length_cons,List.length_nil,Nat.zero_add] at hsz
  rw[if_pos hsz] at hv
  have r0:=hrep 0 x rfl
  rw[←hv] at r0
  have r1: ∀f,RepV w' (backOwn own own' f) β v x:=fun f=>r0.mono (sub_back E) (Wide.refl _) (fun _ _ h=>by cases h)
  have R1: ∀f,Rel C (st.put o.dst x) (a.put o.dst v) w' (backOwn own own' f) β:=fun f=>(R.back E hp).put hd (r1 f)
  cases hdst:o.dst with
  |none=>
   rw[←hdst]
   refine key id (st.put o.dst x) ?_ (R1 id)
   unfold St.putRet
   rw[hx,hdst]
   cases hasNat 0 r.own<;>rfl
  |some d=>
   rw[←hdst]
   cases hb:hasNat 0 r.own with
   |false=>exact key id (st.put o.dst x) (by unfold St.putRet;rw[hx];simp only[hb];rfl) (R1 id)
   |true=>
    refine key (fun p=>if p= .c 0 0 then .t d else p) { (st.put o.dst x) with owns:=[.t d]++(st.put o.dst x).owns} (by unfold St.putRet;rw[hx,hdst];simp only[hb,St.own];rfl) ?_
    refine(R1 _).ownMore (fun p hpm y u hy=> ?_) (fun i j h=>by simp at h)
    simp only[List.mem_singleton] at hpm
    subst hpm
    obtain⟨h2,h3⟩:=hy
    rw[hdst] at h2 h3
    simp only[St.put,look_ins_same,Option.some.injEq] at h2
    rw[tmps_put_some,getD_set_same _ _ _ (hd d hdst)] at h3
    subst h2 h3
    have:=owns_back (f:=fun p=>if p= .c 0 0 then .t d else p) E (hown 0 (hasNat_iff.1 hb) x rfl)
    simpa[←hv] using this
 ·have hne: ∀x,r.vals≠[x]:=fun x e=>h1 ⟨x,e⟩
  have hs1:vs.size≠1:=fun e=>by
   rw[e] at hsz
   obtain⟨x,hx⟩:=List.length_eq_one_iff.1 hsz.symm
   exact hne x hx
  rw[if_neg hs1] at hv
  have r1: ∀f,RepV w' (backOwn own own' f) β v (.tup r.vals):=fun f=>by
   rw[hv]
   exact .tup vs r.vals hsz (fun j x hx=>(hrep j x hx).mono (sub_back E) (Wide.refl _) (fun _ _ h=>by cases h))
  have R1: ∀f,Rel C (st.put o.dst (.tup r.vals)) (a.put o.dst v) w' (backOwn own own' f) β:=fun f=>(R.back E hp).put hd (r1 f)
  have eP:st.putRet o.dst r=(match o.dst with
   |some d=> { (st.put o.dst (.tup r.vals)) with owns:=ownC d r.own++(st.put o.dst (.tup r.vals)).owns}
   |none=>st.put o.dst (.tup r.vals)):=by
   unfold St.putRet
   split
   ·rename_i x hx;exact absurd hx (hne x)
   ·rfl
  cases hdst:o.dst with
  |none=>
   have:=R1 id
   rw[hdst] at eP this
   have k:=key id (st.put none (.tup r.vals)) (by rw[hdst];exact eP)
   rw[hdst] at k
   exact k this
  |some d=>
   have:=R1 (fun p=>match p with| .c _ j=> .c d j|p=>p)
   rw[hdst] at eP this
   have k:=key (fun p=>match p with| .c _ j=> .c d j|p=>p) { (st.put (some d) (.tup r.vals)) with owns:=ownC d r.own++(st.put (some d) (.tup r.vals)).owns} (by rw[hdst];exact eP)
   rw[hdst] at k
   refine k (this.ownMore (fun p hpm y u hy=> ?_) (fun i j h=>by obtain⟨_,_,h⟩:=mem_ownC.1 h;cases h))
   obtain⟨j,hj,rfl⟩:=mem_ownC.1 hpm
   obtain⟨us,arr,h2,h3,h4,h5⟩:=hy
   simp only[St.put,look_ins_same,Option.some.injEq,V.tup.injEq] at h2
   rw[tmps_put_some,getD_set_same _ _ _ (hd d hdst),hv,Value.tuple.injEq] at h4
   subst h2 h4 h5
   exact owns_back (f:=fun p=>match p with| .c _ j=> .c d j|p=>p) E (hown j hj y h3)
theorem run_callee {x:Operand} {g:FuncId} {caps:List V} (R:Rel C st a w own β) (h:calleeOf st x=some (g,caps)) (args:Array Value):
  ∃arr:Array Value,(Deferred.ofValue (a.eval x) args).run P w= .ok {target:= .fn (.func g) arr,args:= #[]++args} w∧arr.size=caps.length∧
   ∀(j:Nat) (y:V),caps[j]? =some y→RepV w own β (arr.getD j undef) y:=by
 cases x with
 |func f=>cases h;exact⟨#[],rfl,rfl,fun j y h=>by simp at h⟩
 |const c=>cases h
 |global g=>cases h
 |tmp t=>
  simp only[calleeOf] at h
  split at h
  ·rename_i hl
   cases h
   have hr:=R.tmps _ _ hl
   generalize he:a.tmps.getD t undef=u at hr
   cases hr with
   |fn f arr cs hs hr=>
    refine⟨arr, ?_,hs,hr⟩
    have:a.eval (.tmp t)= .func (.func g) #[] arr:=he
    rw[this];rfl
  ·cases h
theorem getD_append (u v:Array Value) (j:Nat):(u++v).getD j undef=if j<u.size then u.getD j undef else v.getD (j-u.size) undef:=by
 simp only[Array.getD_eq_getD_getElem?,Array.getElem?_append]
 split<;>rfl
theorem call_sound (K:CallsOk P C) (R:Rel C st a w own β) {c:Call} {f:Operand} (hop:o.op= .call c) (hc:c.callee= .value f)
  (hd: ∀t,o.dst=some t→t<a.tmps.size) {g:FuncId} {caps:List V} (hg:calleeOf st f=some (g,caps))
  (h:(match evArgs C st c.args.toList c.argTypes.toList with
      |some (vs,st)=>callWith C st g (vs++caps) o.dst
      |none=>none)=some st')
  (hn:Next C st w own β a.tmps.size st' next):o.wp P a w next Q:=by
 ·split at h
  ·rename_i vs s1 hvs
   unfold callWith at h
   split at h
   ·rename_i href
    split at h
    ·rename_i r hr
     split at h
     ·cases h
      obtain⟨arr,hrun,hcs,hcr⟩:=run_callee (P:=P) R hg (c.args.map a.eval)
      obtain⟨own1,R1,E1,t1,l1,n1,r1⟩:=evArgs_sound R hvs
      have G:Given w (farAll own1) (c.args.map a.eval++arr) (vs++caps):=by
       refine⟨by simp[n1,hcs],fun j x hx=> ?_⟩
       have hno:=refsL_mem href j x hx
       have hv:RepV w own1 β ((c.args.map a.eval++arr).getD j undef) x:=by
        rw[getD_append,Array.size_map]
        rw[List.getElem?_append,n1,Array.length_toList] at hx
        split at hx
        ·rename_i hlt
         rw[if_pos hlt]
         have:=r1 j x hx
         rw[←Array.toList_map,getD_toList] at this
         exact this
        ·rename_i hlt
         rw[if_neg hlt]
         exact(hcr _ x hx).mono E1.sub E1.wide (fun _ _ h=>h)
       exact(hv.mono sub_farAll (Wide.refl w) (fun _ _ h=>h)).noref hno _
      have hpl: ∀b s,farAll own1 b=some s→ ∃arr e,w.heap[b]? =some (.cells arr e (0,0)):=fun b s h=>by
       cases ho:own1 b with
       |none=>rw[farAll_none ho] at h;cases h
       |some s' =>exact R1.plain b s' ho
      have hfr: ∀b ow n,farAll own1 b=some (ow,n)→ow= .far:=fun b ow n h=>by
       cases ho:own1 b with
       |none=>rw[farAll_none ho] at h;cases h
       |some s' =>obtain⟨ow',m⟩:=s';rw[farAll_some ho] at h;cases h;rfl
      have hgl:=fun g cs h=>(R1.glob g cs h).mono (sub_farAll (own:=own1))
      rcases K.1 g _ r hr with⟨⟨fn,hfn,hname,hbody⟩,hS⟩|hN
      case inr=>
       obtain⟨v,hv,B⟩:=hN _ w (farAll own1) G hgl hpl hfr
       have hx:(execOp a.eval o).run P w= .ok (.value v) w:=by
        simp only[execOp,hop,resolve,hc,Sem.run_bind,hrun,Result.andThen_ok,invoke]
        simpa using hv
       unfold Oper.wp
       rw[hx]
       exact next_ret R1 hd B (Next.of E1 (by rw[l1];exact Nat.le_refl _) (fun _ _ _ h=>h) hn)
      have hx:(execOp a.eval o).run P w= .ok (.enter g (c.args.map a.eval++arr)) w:=by
       simp only[execOp,hop,resolve,hc,Sem.run_bind,hrun,Result.andThen_ok,invoke,callFunc]
       have hname' : ¬fn.name= "runtime.NumGoroutine" :=by simpa using hname
       have hbody' : ¬fn.body=none:=fun e=>by rw[e] at hbody;cases hbody
       simp[hfn,hname',hbody']
      unfold Oper.wp
      rw[hx]
      have hcall:=hS _ w (farAll own1) G hgl hpl hfr
      refine Calls.mono hcall (fun e w' ⟨v,own',he,B⟩=> ?_)
      subst he
      exact next_ret R1 hd B (Next.of E1 (by rw[l1];exact Nat.le_refl _) (fun _ _ _ h=>h) hn)
     ·cases h
    ·cases h
   ·cases h
  ·cases h
end Go.VM
