/- The machine over values: operators and addresses, as operations. -/
import Derived.Test.YthpmkmogoejjpaaGreatDoorVMD
import Derived.Laws.Concat
set_option linter.unusedSimpArgs false
set_option linter.unusedVariables false
namespace Go.VM
open Go
variable {P : Program} {C : Ctx} {st st' : St} {a : Act} {w : World} {own : Own} {β : Nat → Option Nat}
variable {o : Oper} {next : Act → World → Prop} {Q : Exit → Act → World → Prop}
def NotNum:Value→Prop
 | .int _ _=>False
 | .string _=>False
 | .float _ _=>False
 | .complex _ _ _=>False
 |_=>True
theorem binOp_eql {t:Nat} {u v:Value} {r:Bool} (h:(Op.equal t u v).run P w= .ok r w) (hn:NotNum u):(binOp .eql t u v).run P w= .ok (.bool r) w:=by
 cases u<;>first|exact hn.elim|(simp only[binOp];simp[h])
theorem binOp_neq {t:Nat} {u v:Value} {r:Bool} (h:(Op.equal t u v).run P w= .ok r w) (hn:NotNum u):(binOp .neq t u v).run P w= .ok (.bool (!r)) w:=by
 cases u<;>first|exact hn.elim|(simp only[binOp];simp[h])
theorem notNum_of {u:Value} {x:V} (h:RepV w own β u x) (h0:x≠ .any) (h1: ∀k n,x≠ .d (.int k n)) (h2: ∀l,x≠ .d (.str l)):NotNum u:=by
 cases h with
 |any=>exact absurd rfl h0
 |skip=>trivial
 |d v y h=>
  cases h with
  |int k n=>exact absurd rfl (h1 k n)
  |str s l=>exact absurd rfl (h2 l)
  |_=>trivial
 |_=>trivial
theorem evEq_any {t:Nat} {ox oy:Operand} {y:V} {r:Bool} (h:evEq C t ox oy .any y=some r):litNil ox=true:=by
 unfold evEq at h
 split at h
 ·cases h
 ·split at h
  ·simp at h
  ·simp at h
  ·simp at h
  ·cases hy:litNil oy with
   |true=>rw[hy] at h;simp[nilOf] at h
   |false=>
    rw[hy] at h
    cases hx:litNil ox with
    |true=>rfl
    |false=>rw[hx] at h;cases h
  ·simp[nilPtr] at h
  ·simp at h
  ·simp at h
  ·simp at h
  ·cases h
theorem evBin_sound (T:TOk P C.tt) {op:BinOp} {t:Nat} {ox oy:Operand} {x y:V} {r:D} {u v:Value} (hxr:RepV w own β u x) (hyr:RepV w own β v y)
  (hlx:litNil ox=true→u= .slice none 0 0) (hly:litNil oy=true→v= .slice none 0 0) (h:evBin C op t ox oy x y=some r):
  ∃z,(do eqGuard op t ox oy u v;binOp op t u v:Sem Value).run P w= .ok z w∧RepD w own z r:=by
 unfold evBin at h
 split at h
 ·rename_i k n k' m
  obtain⟨rfl,hn⟩:=inv_int hxr
  obtain⟨rfl,hm⟩:=inv_int hyr
  simp only[eqGuard_at_int,Sem.run_bind,Sem.run_pure,Result.andThen_ok]
  split at h
  ·exact evShift_sound h hn
  ·exact evShift_sound h hn
  ·cases hk:k==k' with
   |false=>rw[hk] at h;cases h
   |true=>
    rw[hk] at h
    have:=eq_of_beq hk
    subst this
    exact evInt_sound h hn
 ·rename_i p q
  obtain⟨s,rfl,rfl,hs⟩:=inv_str hxr
  obtain⟨s',rfl,rfl,hs'⟩:=inv_str hyr
  simp only[eqGuard_at_string,Sem.run_bind,Sem.run_pure,Result.andThen_ok]
  split at h
  ·cases h;exact⟨_,by simp[binOp,Op.stringOp,bytesI_inj],.bool _⟩
  ·cases h;exact⟨_,by simp[binOp,Op.stringOp,bytesI_inj],.bool _⟩
  ·cases hl:decide ((bytesI s).length+(bytesI s').length≤maxStr) with
   |false=>rw[hl] at h;cases h
   |true=>
    rw[hl] at h;cases h
    have hle:=of_decide_eq_true hl
    have e1:(bytesI s).length=s.size:=by simp[bytesI]
    have e2:(bytesI s').length=s'.size:=by simp[bytesI]
    rw[e1,e2] at hle
    unfold maxStr at hle
    refine⟨.string (s++s'), ?_,.str _ _ ?_ ?_⟩
    ·have:=run_string_add_sum (P:=P) w s s' (by omega)
     simpa[binOp] using this
    ·simp[bytesI,ByteArray.data_append]
    ·simp only[List.length_append,e1,e2,maxLen];omega
  ·cases h
 ·rename_i hni hns
  have hnn: ∀r',evEq C t ox oy x y=some r' →NotNum u∨((∃k n,x= .d (.int k n))∨ ∃l,x= .d (.str l)):=by
   intro r' he
   by_cases h0:x= .any
   ·subst h0
    rw[hlx (evEq_any he)];exact .inl trivial
   ·by_cases h1: ∃k n,x= .d (.int k n)
    ·exact .inr (.inl h1)
    ·by_cases h2: ∃l,x= .d (.str l)
     ·exact .inr (.inr h2)
     ·exact .inl (notNum_of hxr h0 (fun k n e=>h1 ⟨k,n,e⟩) (fun l e=>h2 ⟨l,e⟩))
  have hno: ∀r',evEq C t ox oy x y=some r' →NotNum u:=by
   intro r' he
   rcases hnn r' he with h|⟨k,n,rfl⟩|⟨l,rfl⟩
   ·exact h
   ·unfold evEq at he
    split at he
    ·cases he
    ·split at he
     ·simp at he
     ·split at he
      ·exact(hni _ _ _ _ rfl rfl).elim
      ·cases he
     ·simp at he
     ·cases hy:litNil oy with
      |true=>rw[hy] at he;simp[nilOf] at he
      |false=>
       rw[hy] at he
       cases hx:litNil ox with
       |true=>rw[hlx hx];trivial
       |false=>rw[hx] at he;cases he
     ·simp[nilPtr] at he
     ·simp at he
     ·simp at he
     ·simp at he
     ·cases he
   ·unfold evEq at he
    split at he
    ·cases he
    ·split at he
     ·simp at he
     ·simp at he
     ·split at he
      ·exact(hns _ _ rfl rfl).elim
      ·cases he
     ·cases hy:litNil oy with
      |true=>rw[hy] at he;simp[nilOf] at he
      |false=>
       rw[hy] at he
       cases hx:litNil ox with
       |true=>rw[hlx hx];trivial
       |false=>rw[hx] at he;cases he
     ·simp[nilPtr] at he
     ·simp at he
     ·simp at he
     ·simp at he
     ·cases he
  split at h
  ·unfold yesB at h
   split at h
   ·rename_i b hb
    cases h
    obtain⟨h1,h2⟩:=evEq_sound T hxr hyr hlx hly hb
    exact⟨_,by simp only[Sem.run_bind,h1,Result.andThen_ok];exact binOp_eql h2 (hno _ hb),.bool _⟩
   ·cases h
  ·unfold notB at h
   split at h
   ·rename_i b hb
    cases h
    obtain⟨h1,h2⟩:=evEq_sound T hxr hyr hlx hly hb
    exact⟨_,by simp only[Sem.run_bind,h1,Result.andThen_ok];exact binOp_neq h2 (hno _ hb),.bool _⟩
   ·cases h
  ·cases h
theorem binOp_sound (T:TOk P C.tt) (R:Rel C st a w own β) {op:BinOp} {t u:Nat} {x y:Operand} (hop:o.op= .binOp op t x y u) (hd: ∀t,o.dst=some t→t<a.tmps.size) {slot:Option Nat}
  (h:evOp C slot o st=some st') (hn:Next C st w own β a.tmps.size st' next):o.wp P a w next Q:=by
 simp only[evOp,hop] at h
 split at h
 ·rename_i p q hp hq
  split at h
  ·rename_i r hr
   cases h
   obtain⟨z,h1,h2⟩:=evBin_sound (P:=P) T (evO_sound R hp) (evO_sound R hq) litNil_eval litNil_eval hr
   have hrun:(execOp a.eval o).run P w= .ok (.value z) w:=by
    simp only[execOp,hop]
    simp only[Sem.run_bind] at h1⊢
    rw[h1];rfl
   exact wp_value hrun (next_put R hd (.d _ _ h2) hn)
  ·cases h
 ·cases h
theorem unOp_sound (R:Rel C st a w own β) {op:UnOp} {t:Nat} {x:Operand} (hop:o.op= .unOp op t x) (hd: ∀t,o.dst=some t→t<a.tmps.size) {slot:Option Nat}
  (h:evOp C slot o st=some st') (hn:Next C st w own β a.tmps.size st' next):o.wp P a w next Q:=by
 simp only[evOp,hop] at h
 split at h
 ·rename_i p hp
  have hpr:=evO_sound R hp
  split at h
  ·rename_i r hr
   cases h
   unfold evUn at hr
   split at hr
   ·rename_i b
    cases hr
    have e:=inv_bool hpr
    have hrun:(execOp a.eval o).run P w= .ok (.value (.bool (!b))) w:=by simp[execOp,hop,e,Op.unary]
    exact wp_value hrun (next_put R hd (.d _ _ (.bool _)) hn)
   ·rename_i k n
    cases hr
    obtain⟨e,_⟩:=inv_int hpr
    have hrun:(execOp a.eval o).run P w= .ok (.value (.int k (k.wrap (0-n)))) w:=by simp[execOp,hop,e,Op.unary,Op.intArith]
    exact wp_value hrun (next_put R hd (.d _ _ (.int _ _ (wrap_wrap _ _))) hn)
   ·rename_i k n
    obtain⟨e,hw⟩:=inv_int hpr
    simp only[intBitsI] at hr
    cases hr
    have hrun:(execOp a.eval o).run P w= .ok (.value (.int k (k.wrap (BitVec.ofInt k.bits (if k.signed then-1 else k.max)^^^BitVec.ofInt k.bits n).toNat))) w:=by simp[execOp,hop,e,Op.unary,Op.intBits]
    exact wp_value hrun (next_put R hd (.d _ _ (.int _ _ (wrap_wrap _ _))) hn)
   ·cases hr
  ·cases h
 ·cases h
end Go.VM
set_option linter.unusedSimpArgs false
set_option linter.unusedVariables false
namespace Go.VM
open Go
variable {P : Program} {C : Ctx} {st st' : St} {a : Act} {w : World} {own : Own} {β : Nat → Option Nat}
variable {o : Oper} {next : Act → World → Prop} {Q : Exit → Act → World → Prop}
theorem repV_fp {b off:Nat} {cs:List D} (h:RepC w own b off cs):RepV w own β (.pointer (some ⟨b,off,none⟩)) (.d (.fp cs)):=by
 obtain⟨val,hv⟩:=h.val
 exact .d _ _ (.fp b off cs val (fun j x hx=>(hv j x hx).1) (fun j x hx=>(hv j x hx).2))
theorem RepC.drop {b off:Nat} {cs:List D} (h:RepC w own b off cs) (k:Nat):RepC w own b (off+k) (cs.drop k):=by
 intro j x hx
 rw[List.getElem?_drop] at hx
 have:=h (k+j) x hx
 rw[←Nat.add_assoc] at this
 exact this
theorem ptr_add {p:V} {u:Value} (h:RepV w own β u p) (k:Nat) (q:V)
  (hq:(∃i off,p= .ptr i off∧q= .ptr i (off+k))∨(∃cs,p= .d (.fp cs)∧q= .d (.fp (cs.drop k)))∨(∃g off,p= .gp g off∧q= .gp g (off+k))):
  ∃b off,u= .pointer (some ⟨b,off,none⟩)∧RepV w own β (.pointer (some ⟨b,off+k,none⟩)) q:=by
 rcases hq with⟨i,off,rfl,rfl⟩|⟨cs,rfl,rfl⟩|⟨g,off,rfl,rfl⟩
 ·obtain⟨b,hb,rfl⟩:=inv_ptr h
  exact⟨b,off,rfl,.ptr _ _ b hb⟩
 ·obtain⟨b,off,rfl,hc⟩:=inv_fp h
  exact⟨b,off,rfl,repV_fp (hc.drop k)⟩
 ·cases h
  exact⟨g,off,rfl,.gp g (off+k)⟩
theorem fieldAddr_sound (T:TOk P C.tt) (R:Rel C st a w own β) {s f:Nat} {x:Operand} (hop:o.op= .fieldAddr s x f) (hd: ∀t,o.dst=some t→t<a.tmps.size) {slot:Option Nat}
  (h:evOp C slot o st=some st') (hn:Next C st w own β a.tmps.size st' next):o.wp P a w next Q:=by
 simp only[evOp,hop] at h
 split at h
 ·rename_i p hp
  have hpr:=evO_sound R hp
  split at h
  ·rename_i v hv
   cases h
   unfold evFieldAddr at hv
   split at hv
   ·rename_i fs _ _ _ _ _ hi
    obtain⟨info,ds,z,row⟩:=T.get hi
    obtain⟨gs,rfl,hgs,_⟩:=row.struct rfl
    split at hv
    ·rename_i off ft hf
     split at hv
     ·rename_i j hj
      obtain⟨info',ds',z',row'⟩:=T.get hj
      cases hsz:Nat.blt 0 j.size with
      |false=>rw[hsz] at hv;cases hv
      |true=>
       rw[hsz] at hv
       simp only[cond_true] at hv
       have hpos:j.size≠0:=by
        have:0<j.size:=by simpa[Nat.blt_eq] using hsz
        omega
       have hfield: ∃g:Field,gs[f]? =some g∧g.offset=off∧g.type=ft:=by
        rw[←hgs,List.getElem?_map,Option.map_eq_some_iff] at hf
        obtain⟨g,h1,h2⟩:=hf
        rw[Array.getElem?_toList] at h1
        simp only[Prod.mk.injEq] at h2
        exact⟨g,h1,h2.1,h2.2⟩
       obtain⟨g,hg,hgo,hgt⟩:=hfield
       have hq:(∃i o',p= .ptr i o' ∧v= .ptr i (o' +off))∨(∃cs,p= .d (.fp cs)∧v= .d (.fp (cs.drop off)))∨(∃g' o',p= .gp g' o' ∧v= .gp g' (o' +off)):=by
        split at hv
        ·cases hv;exact .inl ⟨_,_,rfl,rfl⟩
        ·cases hv;exact .inr (.inl ⟨_,rfl,rfl⟩)
        ·cases hv;exact .inr (.inr ⟨_,_,rfl,rfl⟩)
        ·cases hv
       obtain⟨b,o',he,hrep⟩:=ptr_add hpr off v hq
       have hrun:(execOp a.eval o).run P w= .ok (.value (.pointer (some ⟨b,o' +off,none⟩))) w:=by
        simp[execOp,hop,Instr.fieldAt,row.run_und,hg,Instr.sureAddr,he,fieldPlace,hgt,row'.run_size,hpos,hgo,Addr.add_lit]
       exact wp_value hrun (next_put R hd hrep hn)
     ·cases hv
    ·cases hv
   ·cases hv
  ·cases h
 ·cases h
theorem head_part (T:TOk P C.tt) {t off:Nat} {j:TI} (hj:C.tt t=some j) {arr:Array Value} {cs:List V} (hc:RepL w own β arr cs) {v:V} (h:headV j (cs.drop off)=some v):
  ∃u,(part t arr off).run P w= .ok u w∧RepV w own β u v:=by
 obtain⟨info,ds,z,r⟩:=T.get hj
 unfold headV at h
 cases hg:j.isAgg with
 |true=>
  rw[hg] at h
  simp only[cond_true] at h
  cases hl:Nat.ble j.size (cs.drop off).length with
  |false=>rw[hl] at h;cases h
  |true=>
   rw[hl] at h
   simp only[cond_true,Option.some.injEq] at h
   have hle:=Nat.le_of_ble_eq_true hl
   simp at hle
   subst h
   have hs:=hc.1
   by_cases h0:j.size=0
   ·refine⟨.agg #[],by simp[part,r.run_isAgg,hg,r.run_size,h0];omega, ?_⟩
    rw[h0]
    exact mkAgg_sound ⟨rfl,fun j hj=>by simp at hj,fun j x hx=>by simp at hx⟩
   ·refine⟨.agg (arr.extract off (off+j.size)),by simp[part,r.run_isAgg,hg,r.run_size],mkAgg_sound ⟨by simp;omega,fun k hk=> ?_,fun k y hy=> ?_⟩⟩
    ·simp at hk
     rw[getD_extract arr (by omega) (by omega)];exact hc.2.1 _ (by omega)
    ·rw[List.getElem?_take] at hy
     split at hy
     ·rename_i hk
      rw[List.getElem?_drop] at hy
      rw[getD_extract arr hk (by omega)];exact hc.2.2 _ y hy
     ·cases hy
 |false=>
  rw[hg] at h
  simp only[cond_false] at h
  split at h
  ·rename_i y l hy
   simp only[Option.some.injEq] at h
   subst h
   have hy0:cs[off]? =some y:=by
    have:(cs.drop off)[0]? =some y:=by rw[hy];rfl
    rw[List.getElem?_drop] at this;simpa using this
   have hlt:off<arr.size:=by rw[hc.1];exact(List.getElem?_eq_some_iff.1 hy0).1
   exact⟨arr.getD off undef,by simp[part,r.run_isAgg,hg,Array.getD,hlt],hc.2.2 off y hy0⟩
  ·cases h
theorem headD_headV {j:TI} {cs:List D} {v:V} (h:headD j cs=some v):headV j (cs.map .d)=some v:=by
 unfold headD at h
 unfold headV
 cases hg:j.isAgg with
 |true=>
  rw[hg] at h
  simp only[cond_true,List.length_map] at h⊢
  cases hl:Nat.ble j.size cs.length with
  |false=>rw[hl] at h;cases h
  |true=>
   rw[hl] at h
   simp only[cond_true,Option.some.injEq] at h⊢
   rw[←h,←List.map_take]
   have: ∀l:List D,allD (l.map .d)=some l:=by
    intro l
    induction l with
    |nil=>rfl
    |cons x l ih=>simp[allD,ih]
   unfold mkAgg
   rw[this]
 |false=>
  rw[hg] at h
  simp only[cond_false] at h⊢
  cases cs with
  |nil=>cases h
  |cons x l=>exact h
theorem agg_cells {u:Value} {x:V} (h:RepV w own β u x) (hx:(∃cs,x= .d (.agg cs))∨ ∃cs,x= .agg cs): ∃arr cs,u= .agg arr∧RepL w own β arr cs∧(∀ds,x= .d (.agg ds)→cs=ds.map .d)∧(∀ds,x= .agg ds→cs=ds):=by
 rcases hx with⟨cs,rfl⟩|⟨cs,rfl⟩
 ·obtain⟨arr,rfl,hs,h1,hr⟩:=invd_agg (inv_d h)
  refine⟨arr,cs.map .d,rfl,⟨by simpa using hs,h1,fun j y hy=> ?_⟩,fun ds e=>(by cases e;rfl),fun ds e=>(by cases e)⟩
  simp only[List.getElem?_map,Option.map_eq_some_iff] at hy
  obtain⟨d,h3,rfl⟩:=hy
  exact .d _ _ (hr j d h3)
 ·cases h with|agg arr _ hs h1 hr=>exact⟨arr,cs,rfl,⟨hs,h1,hr⟩,fun ds e=>(by cases e),fun ds e=>(by cases e;rfl)⟩
theorem field_sound (T:TOk P C.tt) (R:Rel C st a w own β) {s f:Nat} {x:Operand} (hop:o.op= .field s x f) (hd: ∀t,o.dst=some t→t<a.tmps.size) {slot:Option Nat}
  (h:evOp C slot o st=some st') (hn:Next C st w own β a.tmps.size st' next):o.wp P a w next Q:=by
 simp only[evOp,hop] at h
 split at h
 ·rename_i p hp
  have hpr:=evO_sound R hp
  split at h
  ·rename_i v hv
   cases h
   unfold evField at hv
   split at hv
   ·rename_i fs _ _ _ _ _ hi
    obtain⟨info,ds,z,row⟩:=T.get hi
    obtain⟨gs,rfl,hgs,_⟩:=row.struct rfl
    split at hv
    ·rename_i off ft hf
     split at hv
     ·rename_i j hj
      have hfield: ∃g:Field,gs[f]? =some g∧g.offset=off∧g.type=ft:=by
       rw[←hgs,List.getElem?_map,Option.map_eq_some_iff] at hf
       obtain⟨g,h1,h2⟩:=hf
       rw[Array.getElem?_toList] at h1
       simp only[Prod.mk.injEq] at h2
       exact⟨g,h1,h2.1,h2.2⟩
      obtain⟨g,hg,hgo,hgt⟩:=hfield
      have key: ∃arr cs,a.eval x= .agg arr∧RepL w own β arr cs∧headV j (cs.drop off)=some v:=by
       split at hv
       ·rename_i cs
        obtain⟨arr,cs',e,hc,h1,_⟩:=agg_cells hpr (.inl ⟨cs,rfl⟩)
        refine⟨arr,cs',e,hc, ?_⟩
        rw[h1 cs rfl,←List.map_drop];exact headD_headV hv
       ·rename_i cs
        obtain⟨arr,cs',e,hc,_,h1⟩:=agg_cells hpr (.inr ⟨cs,rfl⟩)
        refine⟨arr,cs',e,hc, ?_⟩
        rw[h1 cs rfl];exact hv
       ·cases hv
      obtain⟨arr,cs,he,hc,hh⟩:=key
      obtain⟨u,hu,hur⟩:=head_part T hj hc hh
      have hrun:(execOp a.eval o).run P w= .ok (.value u) w:=by
       simp[execOp,hop,Instr.field,row.run_und,hg,he,asAgg,hgt,hgo,hu]
      exact wp_value hrun (next_put R hd hur hn)
     ·cases hv
    ·cases hv
   ·cases hv
  ·cases h
 ·cases h
theorem intOfV_some {v:V} {n:Int} (h:intOfV v=some n): ∃k,v= .d (.int k n):=by
 unfold intOfV at h
 split at h
 ·cases h;exact⟨_,rfl⟩
 ·cases h
theorem indexAddr_sound (T:TOk P C.tt) (R:Rel C st a w own β) {t:Nat} {x ix:Operand} (hop:o.op= .indexAddr t x ix) (hd: ∀t,o.dst=some t→t<a.tmps.size) {slot:Option Nat}
  (h:evOp C slot o st=some st') (hn:Next C st w own β a.tmps.size st' next):o.wp P a w next Q:=by
 simp only[evOp,hop] at h
 split at h
 ·rename_i p i hp hi
  have hpr:=evO_sound R hp
  split at h
  ·rename_i n hin
   obtain⟨k,rfl⟩:=intOfV_some hin
   obtain⟨hie,_⟩:=inv_int (evO_sound R hi)
   split at h
   ·rename_i v hv
    cases h
    unfold evIndexAddr at hv
    cases h0:decide (0≤n) with
    |false=>rw[h0] at hv;cases hv
    |true=>
     rw[h0] at hv
     simp only[cond_true] at hv
     have hn0:=of_decide_eq_true h0
     split at hv
     ·rename_i m e _ _ _ _ _ hti
      obtain⟨info,ds,z,row⟩:=T.get hti
      have:=row.arr rfl;subst this
      split at hv
      ·rename_i j hj
       obtain⟨info',ds',z',row'⟩:=T.get hj
       cases h1:decide (n<(m:Int)) with
       |false=>rw[h1] at hv;cases hv
       |true=>
        rw[h1] at hv
        simp only[cond_true] at hv
        have hnm:=of_decide_eq_true h1
        have hq:(∃i o',p= .ptr i o' ∧v= .ptr i (o' +n.toNat*j.size))∨(∃cs,p= .d (.fp cs)∧v= .d (.fp (cs.drop (n.toNat*j.size))))∨
          (∃g' o',p= .gp g' o' ∧v= .gp g' (o' +n.toNat*j.size)):=by
         split at hv
         ·cases hv;exact .inl ⟨_,_,rfl,rfl⟩
         ·cases hv;exact .inr (.inl ⟨_,rfl,rfl⟩)
         ·cases hv;exact .inr (.inr ⟨_,_,rfl,rfl⟩)
         ·cases hv
        obtain⟨b,o',he,hrep⟩:=ptr_add hpr _ v hq
        have hrun:(execOp a.eval o).run P w= .ok (.value (.pointer (some ⟨b,o' +n.toNat*j.size,none⟩))) w:=by
         simp[execOp,hop,Instr.indexAt,hie,asIntOf,row.run_und,he,Instr.sureAddr,hn0,hnm,row'.run_size,Addr.add_lit]
        exact wp_value hrun (next_put R hd hrep hn)
      ·cases hv
     ·rename_i e _ _ _ _ _ hti
      obtain⟨info,ds,z,row⟩:=T.get hti
      have:=row.slice rfl;subst this
      split at hv
      ·rename_i j hj
       obtain⟨info',ds',z',row'⟩:=T.get hj
       have fin: ∀(b off len cap:Nat),a.eval x= .slice (some ⟨b,off,none⟩) len cap→n<(len:Int)→RepV w own β (.pointer (some ⟨b,off+n.toNat*j.size,none⟩)) v→o.wp P a w next Q:=by
        intro b off len cap he hlt hrep
        have hrun:(execOp a.eval o).run P w= .ok (.value (.pointer (some ⟨b,off+n.toNat*j.size,none⟩))) w:=by
         simp[execOp,hop,Instr.indexAt,hie,asIntOf,row.run_und,he,hn0,hlt,row'.run_size,Addr.add_lit]
        exact wp_value hrun (next_put R hd hrep hn)
       split at hv
       ·rename_i k' nl xs
        cases hsz:Nat.beq j.size 1 with
        |false=>rw[hsz] at hv;cases hv
        |true=>
         rw[hsz] at hv
         simp only[cond_true] at hv
         have h1:=Nat.eq_of_beq_eq_true hsz
         split at hv
         ·rename_i y hy
          cases hv
          have hlt:=(List.getElem?_eq_some_iff.1 hy).1
          generalize he:a.eval x=u at hpr
          have hpd:=inv_d hpr
          cases hpd with
          |numsNil=>simp at hy
          |numsE=>simp at hy
          |nums _ b off len cap _ hl hc hm hh hw=>
           refine fin b off _ cap he (by omega) ?_
           rw[h1,Nat.mul_one]
           exact repV_fp (fun jj xx hx=>by
            cases jj with
            |zero=>simp at hx;subst hx;exact⟨_,by simpa using hh _ y hy,.int _ _ (hw _ y hy)⟩
            |succ jj=>simp at hx)
         ·cases hv
       ·rename_i sz nl xs
        cases hsz:Nat.beq j.size sz with
        |false=>rw[hsz] at hv;cases hv
        |true=>
         rw[hsz] at hv
         simp only[cond_true] at hv
         have h1:=Nat.eq_of_beq_eq_true hsz
         split at hv
         ·rename_i c hc'
          cases hv
          have hlt:=(List.getElem?_eq_some_iff.1 hc').1
          generalize he:a.eval x=u at hpr
          have hpd:=inv_d hpr
          cases hpd with
          |slNil=>simp at hc'
          |slE=>simp at hc'
          |sl _ b off len cap _ val hl hc hm hs hh hr=>
           refine fin b off _ cap he (by omega) ?_
           rw[h1]
           exact repV_fp (fun r xx hx=>⟨val n.toNat r,by rw[Nat.add_assoc];simpa[Nat.add_assoc] using hh _ r c xx hc' hx,hr _ r c xx hc' hx⟩)
         ·cases hv
       ·rename_i b off len cap sz
        cases hsz:Nat.beq j.size sz && decide (n<(len:Int)) with
        |false=>rw[hsz] at hv;cases hv
        |true=>
         rw[hsz] at hv
         simp only[cond_true,Option.some.injEq] at hv
         subst hv
         rw[Bool.and_eq_true] at hsz
         have h1:=Nat.eq_of_beq_eq_true hsz.1
         have hlt:=of_decide_eq_true hsz.2
         generalize he:a.eval x=u at hpr
         cases hpr with|mu _ _ _ _ _ pb ad hb hsp hc hm ha hbb=>
         have hcap:cap≠0:=by omega
         rw[ha hcap] at he
         refine fin pb off len cap he hlt ?_
         rw[h1]
         exact .ptr _ _ pb hb
       ·cases hv
      ·cases hv
     ·cases hv
   ·cases h
  ·cases h
 ·cases h
theorem bytesI_get {s:ByteArray} {k:Nat} {c:Int} (h:(bytesI s)[k]? =some c): ∃b,s[k]? =some b∧(b.toNat:Int)=c:=by
 simp only[bytesI,List.getElem?_map,Option.map_eq_some_iff] at h
 obtain⟨b,h1,h2⟩:=h
 rw[Array.getElem?_toList] at h1
 refine⟨b, ?_,h2⟩
 have hlt:k<s.data.size:=(Array.getElem?_eq_some_iff.1 h1).1
 rw[Array.getElem?_eq_getElem hlt] at h1
 have hlt' :k<s.size:=hlt
 rw[getElem?_pos s k hlt']
 exact h1
theorem index_sound (T:TOk P C.tt) (R:Rel C st a w own β) {t:Nat} {x ix:Operand} (hop:o.op= .index t x ix) (hd: ∀t,o.dst=some t→t<a.tmps.size) {slot:Option Nat}
  (h:evOp C slot o st=some st') (hn:Next C st w own β a.tmps.size st' next):o.wp P a w next Q:=by
 simp only[evOp,hop] at h
 split at h
 ·rename_i p i hp hi
  have hpr:=evO_sound R hp
  split at h
  ·rename_i n hin
   obtain⟨k,rfl⟩:=intOfV_some hin
   obtain⟨hie,_⟩:=inv_int (evO_sound R hi)
   split at h
   ·rename_i v hv
    cases h
    unfold evIndex at hv
    cases h0:decide (0≤n) with
    |false=>rw[h0] at hv;cases hv
    |true=>
     rw[h0] at hv
     simp only[cond_true] at hv
     have hn0:=of_decide_eq_true h0
     split at hv
     ·rename_i m e _ _ _ _ _ hti
      obtain⟨info,ds,z,row⟩:=T.get hti
      have:=row.arr rfl;subst this
      split at hv
      ·rename_i j hj
       obtain⟨info',ds',z',row'⟩:=T.get hj
       cases h1:decide (n<(m:Int)) with
       |false=>rw[h1] at hv;cases hv
       |true=>
        rw[h1] at hv
        simp only[cond_true] at hv
        have hnm:=of_decide_eq_true h1
        have key: ∃arr cs,a.eval x= .agg arr∧RepL w own β arr cs∧headV j (cs.drop (n.toNat*j.size))=some v:=by
         split at hv
         ·rename_i cs
          obtain⟨arr,cs',e,hc,h1,_⟩:=agg_cells hpr (.inl ⟨cs,rfl⟩)
          refine⟨arr,cs',e,hc, ?_⟩
          rw[h1 cs rfl,←List.map_drop];exact headD_headV hv
         ·rename_i cs
          obtain⟨arr,cs',e,hc,_,h1⟩:=agg_cells hpr (.inr ⟨cs,rfl⟩)
          refine⟨arr,cs',e,hc, ?_⟩
          rw[h1 cs rfl];exact hv
         ·cases hv
        obtain⟨arr,cs,he,hc,hh⟩:=key
        obtain⟨u,hu,hur⟩:=head_part T hj hc hh
        have hrun:(execOp a.eval o).run P w= .ok (.value u) w:=by
         simp[execOp,hop,Instr.index,hie,asIntOf,row.run_und,he,hn0,hnm,row'.run_size,hu]
        exact wp_value hrun (next_put R hd hur hn)
      ·cases hv
     ·rename_i _ _ _ _ _ hti
      obtain⟨info,ds,z,row⟩:=T.get hti
      have:=row.str rfl;subst this
      split at hv
      ·rename_i l
       split at hv
       ·rename_i c hc
        cases hv
        obtain⟨s,he,rfl,_⟩:=inv_str hpr
        obtain⟨b,hb,rfl⟩:=bytesI_get hc
        have hrun:(execOp a.eval o).run P w= .ok (.value (.int .u8 b.toNat)) w:=by
         simp[execOp,hop,Instr.index,hie,asIntOf,row.run_und,he,hn0,hb]
        refine wp_value hrun (next_put R hd (.d _ _ (.int _ _ ?_)) hn)
        have:=b.toNat_lt
        rw[wrap_iff];simp[IntKind.min,IntKind.max,IntKind.signed,IntKind.bits];omega
       ·cases hv
      ·cases hv
     ·cases hv
   ·cases h
  ·cases h
 ·cases h
end Go.VM
