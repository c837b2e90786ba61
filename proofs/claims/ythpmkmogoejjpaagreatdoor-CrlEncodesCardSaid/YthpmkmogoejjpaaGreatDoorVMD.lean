/- The machine over values: what is compared. -/
import Derived.Test.YthpmkmogoejjpaaGreatDoorVMC
import Derived.ChangeKeysEq
import Derived.Laws.Cover3
import Derived.LaidEqlPtr
set_option linter.unusedSimpArgs false
set_option linter.unusedVariables false
namespace Go.VM
open Go
variable {P : Program} {C : Ctx} {st st' : St} {a : Act} {w : World} {own : Own} {β : Nat → Option Nat}
variable {o : Oper} {next : Act → World → Prop} {Q : Exit → Act → World → Prop}
theorem bytesI_inj {s t:ByteArray}:(bytesI s==bytesI t)=(s.toList==t.toList):=by
 rw[Bool.eq_iff_iff,beq_iff_eq,beq_iff_eq,ByteArray.toList_eq,ByteArray.toList_eq]
 unfold bytesI
 constructor
 ·intro h
  have:=(List.map_inj_right (f:=fun b:UInt8=>(b.toNat:Int)) (fun x y h=>by
   have:x.toNat=y.toNat:=Int.ofNat.inj h
   exact UInt8.toNat_inj.1 this)).1 h
  exact this
 ·intro h;rw[h]
section
variable {v : Value}
theorem invd_bool {b:Bool} (h:RepD w own v (.bool b)):v= .bool b:=by cases h;rfl
theorem invd_int {k:IntKind} {n:Int} (h:RepD w own v (.int k n)):v= .int k n∧k.wrap n=n:=by cases h with|int _ _ h=>exact⟨rfl,h⟩
theorem invd_str {l:List Int} (h:RepD w own v (.str l)): ∃s,v= .string s∧bytesI s=l:=by cases h with|str s _ h hl=>exact⟨s,rfl,h⟩
theorem invd_agg {cs:List D} (h:RepD w own v (.agg cs)): ∃arr,v= .agg arr∧arr.size=cs.length∧(∀(j:Nat),j<arr.size→(arr.getD j undef).oneCell' =true)∧
  ∀(j:Nat) (x:D),cs[j]? =some x→RepD w own (arr.getD j undef) x:=by cases h with|agg arr _ hs h1 hr=>exact⟨arr,rfl,hs,h1,hr⟩
theorem invd_ifc {t:TypeId} {x:D} (h:RepD w own v (.ifc t x)): ∃u,v= .iface t u∧RepD w own u x:=by cases h with|ifc _ u _ h=>exact⟨u,rfl,h⟩
theorem invd_nilifc (h:RepD w own v .nilifc):v= .nilIface:=by cases h;rfl
theorem invd_nilptr (h:RepD w own v .nilptr):v= .pointer none:=by cases h;rfl
theorem invd_fp {cs:List D} (h:RepD w own v (.fp cs)): ∃b o,v= .pointer (some ⟨b,o,none⟩):=by cases h with|fp b o _ _ _ _=>exact⟨b,o,rfl⟩
theorem invd_nums {k:IntKind} {n:Bool} {xs:List Int} (h:RepD w own v (.nums k n xs)): ∃ad len cap,v= .slice ad len cap∧ad.isNone=n:=by
 cases h with
 |numsNil=>exact⟨_,_,_,rfl,rfl⟩
 |nums=>exact⟨_,_,_,rfl,rfl⟩
 |numsE=>exact⟨_,_,_,rfl,rfl⟩
theorem invd_sl {sz:Nat} {n:Bool} {xs:List (List D)} (h:RepD w own v (.sl sz n xs)): ∃ad len cap,v= .slice ad len cap∧ad.isNone=n:=by
 cases h with
 |slNil=>exact⟨_,_,_,rfl,rfl⟩
 |sl=>exact⟨_,_,_,rfl,rfl⟩
 |slE=>exact⟨_,_,_,rfl,rfl⟩
end
theorem getD_extract (arr:Array Value) {off n j:Nat} (hj:j<n) (hl:off+n≤arr.size):(arr.extract off (off+n)).getD j undef=arr.getD (off+j) undef:=by
 have h2:off+j<arr.size:=by omega
 have h3:j<min (off+n) arr.size-off:=by omega
 simp[Array.getD,h2,h3]
theorem part_sound (T:TOk P C.tt) {t off:Nat} {arr:Array Value} {cs:List D} {x:D} (hs:arr.size=cs.length) (h1: ∀(j:Nat),j<arr.size→(arr.getD j undef).oneCell' =true)
  (hr: ∀(j:Nat) (x:D),cs[j]? =some x→RepD w own (arr.getD j undef) x) (h:eqT.part C.tt t off cs=some x):
  ∃v,(part t arr off).run P w= .ok v w∧RepD w own v x:=by
 unfold eqT.part at h
 split at h
 ·rename_i i hi
  obtain⟨info,d,z,r⟩:=T.get hi
  cases hg:i.isAgg with
  |true=>
   rw[hg] at h
   simp only[cond_true] at h
   cases hle:Nat.ble (off+i.size) cs.length with
   |false=>rw[hle] at h;cases h
   |true=>
   rw[hle] at h
   simp only[cond_true,Option.some.injEq] at h
   have hf:=Nat.le_of_ble_eq_true hle
   subst h
   refine⟨.agg (arr.extract off (off+i.size)),by simp[part,r.run_isAgg,hg,r.run_size],.agg _ _ (by simp;omega) (fun j hj=> ?_) (fun j y hy=> ?_)⟩
   ·simp at hj
    rw[getD_extract arr (by omega) (by omega)];exact h1 _ (by omega)
   ·rw[List.getElem?_take] at hy
    split at hy
    ·rename_i hj
     rw[List.getElem?_drop] at hy
     rw[getD_extract arr hj (by omega)];exact hr _ y hy
    ·cases hy
  |false=>
   rw[hg] at h
   simp only[cond_false] at h
   have hlt:off<arr.size:=by rw[hs];exact(List.getElem?_eq_some_iff.1 h).1
   exact⟨arr.getD off undef,by simp[part,r.run_isAgg,hg,Array.getD,hlt],hr off x h⟩
 ·cases h
theorem eqT_sound (T:TOk P C.tt): ∀(f d t:Nat) (x y:D) (r:Bool) (u v:Value),f≤d→eqT C.tt f t x y=some r→RepD w own u x→RepD w own v y→
  (Op.equalIn d t u v).run P w= .ok r w
 |0,_,_,_,_,_,_,_,_,h,_,_=>by simp[eqT] at h
 |f+1,0,_,_,_,_,_,_,hd,_,_,_=>by omega
 |f+1,d+1,t,x,y,r,u,v,hd,h,hu,hv=>by
  unfold eqT at h
  split at h
  ·cases h
  ·rename_i i hi
   obtain⟨info,ds,z,row⟩:=T.get hi
   split at h
   ·rename_i hk
    cases h
    have:=row.bool hk;subst this
    rw[invd_bool hu,invd_bool hv]
    simp[Op.equalIn,run_underlying row.und]
   ·rename_i k0 k x k' y hk
    cases hkk:k==k' with
    |false=>rw[hkk] at h;cases h
    |true=>
     rw[hkk] at h
     simp only[cond_true,Option.some.injEq] at h
     have:=eq_of_beq hkk
     subst this
     have:=row.int hk;subst this
     rw[(invd_int hu).1,(invd_int hv).1,←h]
     simp[Op.equalIn,run_underlying row.und]
   ·rename_i x y hk
    cases h
    have:=row.str hk;subst this
    obtain⟨s,rfl,rfl⟩:=invd_str hu
    obtain⟨s',rfl,rfl⟩:=invd_str hv
    rw[bytesI_inj]
    simp[Op.equalIn,run_underlying row.und,beq_toListBytes]
   ·rename_i hk
    cases h
    have hi' :=row.tk
    rw[hk] at hi'
    rw[invd_nilifc hu,invd_nilifc hv]
    cases ds<;>simp[tkOk] at hi'
    simp[Op.equalIn,run_underlying row.und]
   ·rename_i t' x' hk
    cases h
    have hi' :=row.tk
    rw[hk] at hi'
    obtain⟨u',rfl,_⟩:=invd_ifc hv
    rw[invd_nilifc hu]
    cases ds<;>simp[tkOk] at hi'
    simp[Op.equalIn,run_underlying row.und]
   ·rename_i t' x' hk
    cases h
    have hi' :=row.tk
    rw[hk] at hi'
    obtain⟨u',rfl,_⟩:=invd_ifc hu
    rw[invd_nilifc hv]
    cases ds<;>simp[tkOk] at hi'
    simp[Op.equalIn,run_underlying row.und]
   ·rename_i t1 x1 t2 y1 hk
    have hi' :=row.tk
    rw[hk] at hi'
    obtain⟨u1,rfl,hu1⟩:=invd_ifc hu
    obtain⟨v1,rfl,hv1⟩:=invd_ifc hv
    cases ds<;>simp[tkOk] at hi'
    cases he:Nat.beq t1 t2 with
    |false=>
     rw[he] at h;cases h
     have:t1≠t2:=fun e=>by rw[e,Nat.beq_refl] at he;cases he
     simp[Op.equalIn,run_underlying row.und,this]
    |true=>
     rw[he] at h
     have:=Nat.eq_of_beq_eq_true he
     subst this
     simp only[cond_true] at h
     split at h
     ·rename_i j hj
      obtain⟨info',ds',z',row'⟩:=T.get hj
      cases hc:j.cmp with
      |false=>rw[hc] at h;cases h
      |true=>
       rw[hc] at h
       simp only[cond_true] at h
       have ih:=eqT_sound T f d t1 x1 y1 r u1 v1 (by omega) h hu1 hv1
       have hcmp:info'.comparable=true:=by rw[row'.cmp,hc]
       simp[Op.equalIn,run_underlying row.und,row'.run_info,hcmp,ih]
     ·cases h
   ·rename_i gs xs ys hk
    obtain⟨fs,rfl,hfs,hnm⟩:=row.struct hk
    obtain⟨ax,rfl,hsx,h1x,hrx⟩:=invd_agg hu
    obtain⟨ay,rfl,hsy,h1y,hry⟩:=invd_agg hv
    have hagg:i.isAgg=true:=by simp[TI.isAgg,hk]
    have hfo:P.fieldsOf t=fs:=by simp[Program.fieldsOf,row.und]
    rw[run_equalIn_struct w d t ax ay (by rw[hfo];exact row.und) (T.agg t i hi hagg).1,hfo]
    have key: ∀(l:List Field) (r:Bool),(∀g∈l,g.name≠ "_")→eqT.eqFs C.tt (eqT C.tt f) xs ys (l.map fun g=>(g.offset,g.type))=some r→(Op.eqFields d ax ay l).run P w= .ok r w:=by
     intro l
     induction l with
     |nil=>intro r _ h;simp[eqT.eqFs] at h;subst h;simp[Op.eqFields]
     |cons g l ihl=>
      intro r hg h
      simp only[List.map_cons,eqT.eqFs] at h
      split at h
      ·rename_i p q hp hq
       obtain⟨vp,hvp,hrp⟩:=part_sound T hsx h1x hrx hp
       obtain⟨vq,hvq,hrq⟩:=part_sound T hsy h1y hry hq
       split at h
       ·rename_i c hc
        have ih:=eqT_sound T f d g.type p q c vp vq (by omega) hc hrp hrq
        have hn:=hg g (by simp)
        simp only[Op.eqFields,hn,ne_eq,not_false_eq_true,if_true,Sem.run_bind,hvp,hvq,ih,Result.andThen_ok]
        cases c with
        |true=>simp only[cond_true] at h;simpa using ihl r (fun g' h' =>hg g' (by simp[h'])) h
        |false=>simp only[cond_false,Option.some.injEq] at h;subst h;simp
       ·cases h
      ·cases h
    exact key fs.toList r hnm (by rw[hfs];exact h)
   ·rename_i n e xs ys hk
    have:=row.arr hk;subst this
    obtain⟨ax,rfl,hsx,h1x,hrx⟩:=invd_agg hu
    obtain⟨ay,rfl,hsy,h1y,hry⟩:=invd_agg hv
    split at h
    ·rename_i j hj
     obtain⟨info',ds',z',row'⟩:=T.get hj
     have hco:P.cellsOf e=j.size:=by simp[Program.cellsOf,row'.hinfo,row'.size]
     rw[run_equalIn_array w d ax ay row.und row'.hinfo,hco,List.range_eq_range']
     have key: ∀(m k:Nat) (r:Bool),eqT.eqEs C.tt (eqT C.tt f) xs ys e j.size m (k*j.size)=some r→(Op.eqItems d e j.size ax ay (List.range' k m)).run P w= .ok r w:=by
      intro m
      induction m with
      |zero=>intro k r h;simp[eqT.eqEs] at h;subst h;simp[Op.eqItems]
      |succ m ihm=>
       intro k r h
       simp only[eqT.eqEs] at h
       split at h
       ·rename_i p q hp hq
        obtain⟨vp,hvp,hrp⟩:=part_sound T hsx h1x hrx hp
        obtain⟨vq,hvq,hrq⟩:=part_sound T hsy h1y hry hq
        split at h
        ·rename_i c hc
         have ih:=eqT_sound T f d e p q c vp vq (by omega) hc hrp hrq
         simp only[List.range'_succ,Op.eqItems,Sem.run_bind,hvp,hvq,ih,Result.andThen_ok]
         cases c with
         |true=>
          simp only[cond_true] at h
          have:=ihm (k+1) r (by rw[Nat.succ_mul];exact h)
          simpa using this
         |false=>simp only[cond_false,Option.some.injEq] at h;subst h;simp
        ·cases h
       ·cases h
     exact key n 0 r (by rw[Nat.zero_mul];exact h)
    ·cases h
   ·cases h
end Go.VM
set_option linter.unusedSimpArgs false
set_option linter.unusedVariables false
namespace Go.VM
open Go
variable {P : Program} {C : Ctx} {st st' : St} {a : Act} {w : World} {own : Own} {β : Nat → Option Nat}
variable {o : Oper} {next : Act → World → Prop} {Q : Exit → Act → World → Prop}
theorem litNil_eval {x:Operand} (h:litNil x=true):a.eval x= .slice none 0 0:=by
 unfold litNil at h
 split at h
 ·rfl
 ·cases h
theorem invv_nil {v:Value} {x:V} {b:Bool} (h:RepV w own β v x) (hb:nilOf x=some b): ∃ad l c,v= .slice ad l c∧ad.isNone=b:=by
 unfold nilOf at hb
 split at hb
 ·cases hb;exact invd_nums (inv_d h)
 ·cases hb;exact invd_sl (inv_d h)
 ·cases hb;cases h with|mu=>exact⟨_,_,_,rfl,rfl⟩
 ·cases hb
theorem invv_ptr {v:Value} {x:V} {b:Bool} (h:RepV w own β v x) (hb:nilPtr x=some b): ∃ad,v= .pointer ad∧ad.isNone=b:=by
 unfold nilPtr at hb
 split at hb
 ·cases hb;exact⟨none,invd_nilptr (inv_d h),rfl⟩
 ·cases hb
  obtain⟨b,o,e⟩:=invd_fp (inv_d h)
  exact⟨_,e,rfl⟩
 ·cases hb
  obtain⟨b,_,e⟩:=inv_ptr h
  exact⟨_,e,rfl⟩
 ·cases hb;cases h;exact⟨_,rfl,rfl⟩
 ·cases hb
theorem evEq_sound (T:TOk P C.tt) {t:Nat} {ox oy:Operand} {x y:V} {r:Bool} {u v:Value} (hxr:RepV w own β u x) (hyr:RepV w own β v y)
  (hlx:litNil ox=true→u= .slice none 0 0) (hly:litNil oy=true→v= .slice none 0 0)
  (h:evEq C t ox oy x y=some r):
  (∀op,(eqGuard op t ox oy u v).run P w= .ok () w)∧(Op.equal t u v).run P w= .ok r w:=by
 unfold evEq at h
 split at h
 ·cases h
 ·rename_i i hi
  obtain⟨info,ds,z,row⟩:=T.get hi
  have h10: ∀u v,Op.equal t u v=Op.equalIn (9999+1) t u v:=fun _ _=>rfl
  revert h10
  generalize 9999=dd
  intro h10
  split at h
  ·rename_i hk
   split at h
   ·cases h
    have:=row.bool hk;subst this
    rw[inv_bool hxr,inv_bool hyr,h10]
    exact⟨fun op=>by rw[eqGuard_at_bool];rfl,by simp[Op.equalIn,run_underlying row.und]⟩
   ·cases h
  ·rename_i k0 hk
   split at h
   ·rename_i k n k' m
    cases hkk:k==k' with
    |false=>rw[hkk] at h;cases h
    |true=>
     rw[hkk] at h
     simp only[cond_true,Option.some.injEq] at h
     have:=eq_of_beq hkk
     subst this
     have:=row.int hk;subst this
     rw[(inv_int hxr).1,(inv_int hyr).1,←h,h10]
     exact⟨fun op=>by rw[eqGuard_at_int];rfl,by simp[Op.equalIn,run_underlying row.und]⟩
   ·cases h
  ·rename_i hk
   split at h
   ·cases h
    have:=row.str hk;subst this
    obtain⟨s,rfl,rfl,_⟩:=inv_str hxr
    obtain⟨s',rfl,rfl,_⟩:=inv_str hyr
    rw[bytesI_inj,h10]
    exact⟨fun op=>by rw[eqGuard_at_string];rfl,by simp[Op.equalIn,run_underlying row.und,beq_toListBytes]⟩
   ·cases h
  ·rename_i e hk
   have:=row.slice hk;subst this
   rw[h10]
   cases hy:litNil oy with
   |true=>
    rw[hy] at h
    simp only[cond_true] at h
    obtain⟨ad,l,c,rfl,hb⟩:=invv_nil hxr h
    rw[hly hy]
    refine⟨fun op=>by rw[eqGuard_at_slice];rfl, ?_⟩
    rw[←hb]
    cases ad<;>simp[Op.equalIn,run_underlying row.und]
   |false=>
    rw[hy] at h
    simp only[cond_false] at h
    cases hx:litNil ox with
    |false=>rw[hx] at h;cases h
    |true=>
     rw[hx] at h
     simp only[cond_true] at h
     obtain⟨ad,l,c,rfl,hb⟩:=invv_nil hyr h
     rw[hlx hx]
     refine⟨fun op=>by rw[eqGuard_at_slice];rfl, ?_⟩
     rw[←hb]
     cases ad<;>simp[Op.equalIn,run_underlying row.und]
  ·rename_i hk
   have htk:=row.tk
   rw[hk] at htk
   rw[h10]
   split at h
   ·rename_i b hp hq
    cases h
    obtain⟨ad,rfl,h1⟩:=invv_ptr hxr hp
    obtain⟨ad',rfl,h2⟩:=invv_ptr hyr hq
    cases ad with
    |some _=>simp at h1
    |none=>
     cases ds<;>simp[tkOk] at htk
     refine⟨fun op=>by rw[eqGuard_at_pointer];rfl, ?_⟩
     rw[←h2]
     simp[Op.equalIn,run_underlying row.und]
   ·rename_i hp hq
    cases h
    obtain⟨ad,rfl,h1⟩:=invv_ptr hxr hp
    obtain⟨ad',rfl,h2⟩:=invv_ptr hyr hq
    cases ad with
    |none=>simp at h1
    |some _=>
     cases ad' with
     |some _=>simp at h2
     |none=>
      cases ds<;>simp[tkOk] at htk
      refine⟨fun op=>by rw[eqGuard_at_pointer];rfl, ?_⟩
      simp[Op.equalIn,run_underlying row.und]
   ·cases h
  ·rename_i hk
   have htk:=row.tk
   rw[hk] at htk
   split at h
   ·cases hc:isCst ox||isCst oy with
    |false=>rw[hc] at h;cases h
    |true=>
     rw[hc] at h;cases h
     rw[invd_nilifc (inv_d hxr),invd_nilifc (inv_d hyr),h10]
     refine⟨fun op=> ?_, ?_⟩
     ·rw[Bool.or_eq_true] at hc
      unfold isCst at hc
      rcases hc with hc|hc
      ·split at hc
       ·rw[eqGuard_nil_constL];rfl
       ·cases hc
      ·split at hc
       ·rw[eqGuard_nil_constR];rfl
       ·cases hc
     ·cases ds<;>simp[tkOk] at htk
      simp[Op.equalIn,run_underlying row.und]
   ·cases h
    obtain⟨u',rfl,_⟩:=invd_ifc (inv_d hyr)
    rw[invd_nilifc (inv_d hxr),h10]
    refine⟨fun op=>by rw[eqGuard_nil_iface];rfl, ?_⟩
    cases ds<;>simp[tkOk] at htk
    simp[Op.equalIn,run_underlying row.und]
   ·cases h
    obtain⟨u',rfl,_⟩:=invd_ifc (inv_d hxr)
    rw[invd_nilifc (inv_d hyr),h10]
    refine⟨fun op=>by rw[eqGuard_at_iface];rfl, ?_⟩
    cases ds<;>simp[tkOk] at htk
    simp[Op.equalIn,run_underlying row.und]
   ·have hh:=eqT_sound T eqFuel Op.maxDepth t _ _ r u v (by unfold eqFuel Op.maxDepth;omega) h (inv_d hxr) (inv_d hyr) (w:=w)
    refine⟨fun op=> ?_,hh⟩
    obtain⟨u',rfl,_⟩:=invd_ifc (inv_d hxr)
    rw[eqGuard_at_iface];rfl
   ·cases h
  ·rename_i fs hk
   split at h
   ·cases he:i.eq with
    |false=>rw[he] at h;cases h
    |true=>
     rw[he] at h
     simp only[cond_true] at h
     have hh:=eqT_sound T eqFuel Op.maxDepth t _ _ r u v (by unfold eqFuel Op.maxDepth;omega) h (inv_d hxr) (inv_d hyr) (w:=w)
     refine⟨fun op=> ?_,hh⟩
     obtain⟨arr,rfl,_⟩:=invd_agg (inv_d hxr)
     obtain⟨arr',rfl,_⟩:=invd_agg (inv_d hyr)
     exact run_eqGuard_agg w op t ox oy arr arr' ((T.agg t i hi (by simp[TI.isAgg,hk])).2 he)
   ·cases h
  ·rename_i n e hk
   split at h
   ·cases he:i.eq with
    |false=>rw[he] at h;cases h
    |true=>
     rw[he] at h
     simp only[cond_true] at h
     have hh:=eqT_sound T eqFuel Op.maxDepth t _ _ r u v (by unfold eqFuel Op.maxDepth;omega) h (inv_d hxr) (inv_d hyr) (w:=w)
     refine⟨fun op=> ?_,hh⟩
     obtain⟨arr,rfl,_⟩:=invd_agg (inv_d hxr)
     obtain⟨arr',rfl,_⟩:=invd_agg (inv_d hyr)
     exact run_eqGuard_agg w op t ox oy arr arr' ((T.agg t i hi (by simp[TI.isAgg,hk])).2 he)
   ·cases h
  ·cases h
end Go.VM
