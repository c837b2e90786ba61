/- The machine over values: cuts. -/
import Derived.Test.YthpmkmogoejjpaaGreatDoorVMF
set_option linter.unusedSimpArgs false
set_option linter.unusedVariables false
namespace Go.VM
open Go
variable {P : Program} {C : Ctx} {st st' : St} {a : Act} {w : World} {own : Own} {β : Nat → Option Nat}
variable {o : Oper} {next : Act → World → Prop} {Q : Exit → Act → World → Prop}
theorem run_bound {k:IntKind} {n:Int} {y:Nat} {code:BoundsCode} (h0:0≤n) (h1:n≤y):(Instr.sliceBound (.int k n) y code).run P w= .ok n.toNat w:=by
 simp[Instr.sliceBound,asIntOf,h0,h1]
def BndIs (x:Option Value) (n:Option Int):Prop:=match x,n with
 |none,none=>True
 |some v,some m=> ∃k,v= .int k m
 |_,_=>False
theorem run_bounds2 {isSlice:Bool} {len cap:Nat} {lo hi:Option Value} {l:Int} {h:Option Int} (hl:lo=none∧l=0∨ ∃k,lo=some (.int k l)) (hh:BndIs hi h)
  (h0:0≤l) (h1:l≤h.getD len) (h2:h.getD len≤cap):(Instr.sliceBounds isSlice len cap lo hi none).run P w= .ok (l.toNat,(h.getD len).toNat,cap) w:=by
 unfold BndIs at hh
 split at hh
 ·simp only[Option.getD_none] at h1 h2⊢
  rcases hl with⟨rfl,rfl⟩|⟨k,rfl⟩
  ·simp[Instr.sliceBounds]
  ·have hb:=run_bound (P:=P) (w:=w) (k:=k) (n:=l) (y:=len) (code:= .sliceB) h0 h1
   simp[Instr.sliceBounds,hb]
 ·rename_i v m
  obtain⟨k',rfl⟩:=hh
  simp only[Option.getD_some] at h1 h2⊢
  have hb:=run_bound (P:=P) (w:=w) (k:=k') (n:=m) (y:=cap) (code:=if isSlice then .sliceAcap else .sliceAlen) (by omega) h2
  rcases hl with⟨rfl,rfl⟩|⟨k,rfl⟩
  ·simp[Instr.sliceBounds,hb]
  ·have hb' :=run_bound (P:=P) (w:=w) (k:=k) (n:=l) (y:=m.toNat) (code:= .sliceB) h0 (by omega)
   simp[Instr.sliceBounds,hb,hb']
 ·cases hh
theorem run_bounds3 {isSlice:Bool} {len cap:Nat} {lo:Option Value} {l h m:Int} {kh km:IntKind} (hl:lo=none∧l=0∨ ∃k,lo=some (.int k l))
  (h0:0≤l) (h1:l≤h) (h2:h≤m) (h3:m≤cap):(Instr.sliceBounds isSlice len cap lo (some (.int kh h)) (some (.int km m))).run P w= .ok (l.toNat,h.toNat,m.toNat) w:=by
 have hm:=run_bound (P:=P) (w:=w) (k:=km) (n:=m) (y:=cap) (code:=if isSlice then .slice3Acap else .slice3Alen) (by omega) h3
 have hh:=run_bound (P:=P) (w:=w) (k:=kh) (n:=h) (y:=m.toNat) (code:= .slice3B) (by omega) (by omega)
 rcases hl with⟨rfl,rfl⟩|⟨k,rfl⟩
 ·simp[Instr.sliceBounds,hm,hh]
 ·have hb' :=run_bound (P:=P) (w:=w) (k:=k) (n:=l) (y:=h.toNat) (code:= .slice3C) h0 (by omega)
  simp[Instr.sliceBounds,hm,hh,hb']
theorem bnd_sound (R:Rel C st a w own β) {x:Option Operand} {n:Int} (h:bnd C st x 0=some n):(x.map a.eval=none∧n=0)∨ ∃k,x.map a.eval=some (.int k n):=by
 unfold bnd at h
 split at h
 ·cases h;exact .inl ⟨rfl,rfl⟩
 ·split at h
  ·cases h
   exact .inr ⟨_,by rw[Option.map_some,(inv_int (evO_sound R (by assumption))).1]⟩
  ·cases h
theorem bytesI_extract (s:ByteArray) (l h:Nat) (hh:h≤s.size):bytesI (s.extract l h)=((bytesI s).take h).drop l:=by
 simp only[bytesI,ByteArray.data_extract,Array.toList_extract,List.extract_eq_take_drop]
 rw[←List.map_take,←List.map_drop,List.take_drop]
 by_cases hl:l≤h
 ·rw[show l+(h-l)=h by omega]
 ·have e1:h-l=0:=by omega
  rw[List.drop_eq_nil_of_le (by simp;omega),List.drop_eq_nil_of_le (by simp;omega)]
theorem evSlice2_sound (T:TOk P C.tt) (R:Rel C st a w own β) {t:Nat} {x v:V} {ow:Bool} {l:Int} {h:Option Int} {u:Value} {lo hi:Option Value} (hu:RepV w own β u x)
  (hl:(lo=none∧l=0)∨ ∃k,lo=some (.int k l)) (hh:BndIs hi h) (he:evSlice C st t x l h none=some (v,ow)):
  ow=false∧ ∃r,(Instr.sliceAt t u lo hi none).run P w= .ok r w∧RepV w own β r v:=by
 unfold evSlice at he
 split at he
 ·rename_i s
  split at he
  ·rename_i _ _ _ _ _ hti _
   obtain⟨info,ds,z,row⟩:=T.get hti
   have:=row.str rfl;subst this
   simp only at he
   obtain⟨s',rfl,rfl,hsm⟩:=inv_str hu
   have e1:(bytesI s').length=s'.size:=by simp[bytesI]
   rw[e1] at he
   cases hc:decide (0≤l) && decide (l≤h.getD s'.size) && decide (h.getD s'.size≤s'.size) with
   |false=>rw[hc] at he;cases he
   |true=>
    rw[hc] at he
    simp only[cond_true,Option.some.injEq,Prod.mk.injEq] at he
    obtain⟨rfl,rfl⟩:=he
    simp only[Bool.and_eq_true,decide_eq_true_eq] at hc
    obtain⟨⟨h0,h1⟩,h2⟩:=hc
    refine⟨rfl,_, ?_,.d _ _ (.str _ _ (bytesI_extract s' l.toNat (h.getD s'.size).toNat (by omega)) (by simp;omega))⟩
    have hb:=run_bounds2 (P:=P) (w:=w) (isSlice:=false) (len:=s'.size) (cap:=s'.size) hl hh h0 h1 h2
    simp[Instr.sliceAt,row.run_und,Instr.slice,hb]
  ·cases he
 ·rename_i k nl xs
  split at he
  ·rename_i e _ _ _ _ _ hti
   obtain⟨info,ds,z,row⟩:=T.get hti
   have:=row.slice rfl;subst this
   split at he
   ·rename_i j hj
    obtain⟨info',ds',z',row'⟩:=T.get hj
    simp only[Option.getD_none] at he
    cases hc:Nat.beq j.size 1 && decide (0≤l) && decide (l≤h.getD xs.length) && decide (h.getD xs.length≤xs.length) && decide ((xs.length:Int)≤xs.length) with
    |false=>rw[hc] at he;cases he
    |true=>
     rw[hc] at he
     simp only[cond_true,Option.some.injEq,Prod.mk.injEq,Option.isSome_none,Bool.false_and] at he
     obtain⟨rfl,rfl⟩:=he
     simp only[Bool.and_eq_true,decide_eq_true_eq] at hc
     obtain⟨⟨⟨⟨hsz,h0⟩,h1⟩,h2⟩,_⟩:=hc
     have hs1:=Nat.eq_of_beq_eq_true hsz
     refine⟨rfl, ?_⟩
     have hpd:=inv_d hu
     generalize hh' :h.getD xs.length=H at h1 h2
     cases hpd with
     |numsNil=>
      have hb:=run_bounds2 (P:=P) (w:=w) (isSlice:=true) (len:=0) (cap:=0) hl hh h0 (by rw[show h.getD (0:Nat)=H from hh'];exact h1) (by rw[show h.getD (0:Nat)=H from hh'];simpa using h2)
      rw[show h.getD (0:Nat)=H from hh'] at hb
      have hH:H=0:=by simp at h2;omega
      have hl0:l=0:=by omega
      subst hH hl0
      refine⟨.slice none 0 0, ?_,.d _ _ (by simpa using RepD.numsNil k)⟩
      simp[Instr.sliceAt,row.run_und,Instr.slice,hb,row'.run_size]
     |numsE _ ad cap hm=>
      have hb:=run_bounds2 (P:=P) (w:=w) (isSlice:=true) (len:=0) (cap:=cap) hl hh h0 (by rw[show h.getD (0:Nat)=H from hh'];exact h1) (by rw[show h.getD (0:Nat)=H from hh'];simp at h2;omega)
      rw[show h.getD (0:Nat)=H from hh'] at hb
      have hH:H=0:=by simp at h2;omega
      have hl0:l=0:=by omega
      subst hH hl0
      have hrun:(Instr.sliceAt t (.slice (some ad) 0 cap) lo hi none).run P w= .ok (.slice (some (if cap=0 then ad else ad.add 0)) 0 cap) w:=by
       simp[Instr.sliceAt,row.run_und,Instr.slice,hb,row'.run_size,hs1]
       split<;>rfl
      exact⟨_,hrun,.d _ _ (by simpa using RepD.numsE k _ cap hm)⟩
     |nums _ b off len cap _ hlen hcap hm hf hw=>
      subst hlen
      have hb:=run_bounds2 (P:=P) (w:=w) (isSlice:=true) (len:=xs.length) (cap:=cap) hl hh h0 (by rw[hh'];exact h1) (by rw[hh'];omega)
      rw[hh'] at hb
      have hrun:(Instr.sliceAt t (.slice (some ⟨b,off,none⟩) xs.length cap) lo hi none).run P w=
        .ok (.slice (some (if cap=l.toNat then⟨b,off,none⟩ else⟨b,off+l.toNat,none⟩)) (H.toNat-l.toNat) (cap-l.toNat)) w:=by
       simp[Instr.sliceAt,row.run_und,Instr.slice,hb,row'.run_size,hs1,Addr.add_lit]
       split<;>rfl
      refine⟨_,hrun,.d _ _ ?_⟩
      have hlen:((xs.take H.toNat).drop l.toNat).length=H.toNat-l.toNat:=by simp;omega
      have hget: ∀(i:Nat) (x:Int),((xs.take H.toNat).drop l.toNat)[i]? =some x→xs[l.toNat+i]? =some x∧l.toNat+i<H.toNat:=by
       intro i x hx
       rw[List.getElem?_drop,List.getElem?_take] at hx
       split at hx
       ·exact⟨hx,by assumption⟩
       ·cases hx
      by_cases hcl:cap=l.toNat
      ·rw[if_pos hcl]
       exact .nums k b off _ _ _ hlen (by omega) (by omega) (fun i x hx=>by have:=hget i x hx;omega) (fun i x hx=>hw _ x (hget i x hx).1)
      ·rw[if_neg hcl]
       exact .nums k b _ _ _ _ hlen (by omega) (by omega) (fun i x hx=>by rw[Nat.add_assoc];exact hf _ x (hget i x hx).1) (fun i x hx=>hw _ x (hget i x hx).1)
   ·cases he
  ·cases he
 ·rename_i sz nl xs
  split at he
  ·rename_i e _ _ _ _ _ hti
   obtain⟨info,ds,z,row⟩:=T.get hti
   have:=row.slice rfl;subst this
   split at he
   ·rename_i j hj
    obtain⟨info',ds',z',row'⟩:=T.get hj
    simp only[Option.getD_none] at he
    cases hc:Nat.beq j.size sz && decide (0≤l) && decide (l≤h.getD xs.length) && decide (h.getD xs.length≤xs.length) && decide ((xs.length:Int)≤xs.length) with
    |false=>rw[hc] at he;cases he
    |true=>
     rw[hc] at he
     simp only[cond_true,Option.some.injEq,Prod.mk.injEq,Option.isSome_none,Bool.false_and] at he
     obtain⟨rfl,rfl⟩:=he
     simp only[Bool.and_eq_true,decide_eq_true_eq] at hc
     obtain⟨⟨⟨⟨hsz,h0⟩,h1⟩,h2⟩,_⟩:=hc
     have hs1:=Nat.eq_of_beq_eq_true hsz
     refine⟨rfl, ?_⟩
     have hpd:=inv_d hu
     generalize hh' :h.getD xs.length=H at h1 h2
     cases hpd with
     |slNil=>
      have hb:=run_bounds2 (P:=P) (w:=w) (isSlice:=true) (len:=0) (cap:=0) hl hh h0 (by rw[show h.getD (0:Nat)=H from hh'];exact h1) (by rw[show h.getD (0:Nat)=H from hh'];simpa using h2)
      rw[show h.getD (0:Nat)=H from hh'] at hb
      have hH:H=0:=by simp at h2;omega
      have hl0:l=0:=by omega
      subst hH hl0
      refine⟨.slice none 0 0, ?_,.d _ _ (by simpa using RepD.slNil sz)⟩
      simp[Instr.sliceAt,row.run_und,Instr.slice,hb,row'.run_size]
     |slE _ ad cap hm=>
      have hb:=run_bounds2 (P:=P) (w:=w) (isSlice:=true) (len:=0) (cap:=cap) hl hh h0 (by rw[show h.getD (0:Nat)=H from hh'];exact h1) (by rw[show h.getD (0:Nat)=H from hh'];simp at h2;omega)
      rw[show h.getD (0:Nat)=H from hh'] at hb
      have hH:H=0:=by simp at h2;omega
      have hl0:l=0:=by omega
      subst hH hl0
      have hrun:(Instr.sliceAt t (.slice (some ad) 0 cap) lo hi none).run P w= .ok (.slice (some (if cap=0 then ad else ad.add 0)) 0 cap) w:=by
       simp[Instr.sliceAt,row.run_und,Instr.slice,hb,row'.run_size,hs1]
       split<;>rfl
      exact⟨_,hrun,.d _ _ (by simpa using RepD.slE sz _ cap hm)⟩
     |sl _ b off len cap _ val hlen hcap hm hsz' hf hr=>
      subst hlen
      have hb:=run_bounds2 (P:=P) (w:=w) (isSlice:=true) (len:=xs.length) (cap:=cap) hl hh h0 (by rw[hh'];exact h1) (by rw[hh'];omega)
      rw[hh'] at hb
      have hrun:(Instr.sliceAt t (.slice (some ⟨b,off,none⟩) xs.length cap) lo hi none).run P w=
        .ok (.slice (some (if cap=l.toNat then⟨b,off,none⟩ else⟨b,off+l.toNat*sz,none⟩)) (H.toNat-l.toNat) (cap-l.toNat)) w:=by
       simp[Instr.sliceAt,row.run_und,Instr.slice,hb,row'.run_size,hs1,Addr.add_lit]
       split<;>rfl
      refine⟨_,hrun,.d _ _ ?_⟩
      have hlen:((xs.take H.toNat).drop l.toNat).length=H.toNat-l.toNat:=by simp;omega
      have hget: ∀(i:Nat) (x:List D),((xs.take H.toNat).drop l.toNat)[i]? =some x→xs[l.toNat+i]? =some x∧l.toNat+i<H.toNat:=by
       intro i x hx
       rw[List.getElem?_drop,List.getElem?_take] at hx
       split at hx
       ·exact⟨hx,by assumption⟩
       ·cases hx
      by_cases hcl:cap=l.toNat
      ·rw[if_pos hcl]
       exact .sl sz b off _ _ _ (fun i r=>val (l.toNat+i) r) hlen (by omega) (by omega) (fun i c hx=>hsz' _ c (hget i c hx).1) (fun i r c x hx=>by have:=hget i c hx;omega)
        (fun i r c x hx h2=>hr _ r c x (hget i c hx).1 h2)
      ·rw[if_neg hcl]
       exact .sl sz b _ _ _ _ (fun i r=>val (l.toNat+i) r) hlen (by omega) (by omega) (fun i c hx=>hsz' _ c (hget i c hx).1)
        (fun i r c x hx h2=>by rw[show off+l.toNat*sz+i*sz+r=off+(l.toNat+i)*sz+r by rw[Nat.add_mul];omega];exact hf _ r c x (hget i c hx).1 h2)
        (fun i r c x hx h2=>hr _ r c x (hget i c hx).1 h2)
   ·cases he
  ·cases he
 ·rename_i b off len cap sz
  split at he
  ·rename_i e _ _ _ _ _ hti
   obtain⟨info,ds,z,row⟩:=T.get hti
   have:=row.slice rfl;subst this
   split at he
   ·rename_i j hj _
    obtain⟨info',ds',z',row'⟩:=T.get hj
    simp only at he
    cases hc:Nat.beq j.size sz && decide (0≤l) && decide (l≤h.getD len) && decide (h.getD len≤cap) with
    |false=>rw[hc] at he;cases he
    |true=>
     rw[hc] at he
     simp only[cond_true,Option.some.injEq,Prod.mk.injEq] at he
     obtain⟨rfl,rfl⟩:=he
     simp only[Bool.and_eq_true,decide_eq_true_eq] at hc
     obtain⟨⟨⟨hsz,h0⟩,h1⟩,h2⟩:=hc
     have hs1:=Nat.eq_of_beq_eq_true hsz
     refine⟨rfl, ?_⟩
     cases hu with|mu _ _ _ _ _ pb ad hb hsp hcl hm ha hbb=>
     have hbd:=run_bounds2 (P:=P) (w:=w) (isSlice:=true) (len:=len) (cap:=cap) hl hh h0 h1 h2
     generalize hh' :h.getD len=H at h1 h2 hbd
     have hrun:(Instr.sliceAt t (.slice (some ad) len cap) lo hi none).run P w=
       .ok (.slice (some (if cap=l.toNat then ad else ad.add (l.toNat*sz))) (H.toNat-l.toNat) (cap-l.toNat)) w:=by
      simp[Instr.sliceAt,row.run_und,Instr.slice,hbd,row'.run_size,hs1]
      split<;>rfl
     refine⟨_,hrun,.mu _ _ _ _ _ pb _ hb ?_ (by omega) (by omega) (fun h3=> ?_) (fun h3=> ?_)⟩
     ·split
      ·exact hsp
      ·cases ad;simp at hsp;subst hsp;simp[Addr.add_lit]
     ·have hc0:cap≠0:=by omega
      rw[if_neg (by omega),ha hc0,Addr.add_lit]
     ·have hc0:cap≠0:=by omega
      obtain⟨arr,e',h4,h5⟩:=hbb hc0
      refine⟨arr,e',h4, ?_⟩
      have:l.toNat*sz+(cap-l.toNat)*sz=cap*sz:=by rw[←Nat.add_mul];congr 1;omega
      omega
   ·cases he
  ·cases he
 ·rename_i b off
  split at he
  ·rename_i n e _ _ _ _ _ hti
   obtain⟨info,ds,z,row⟩:=T.get hti
   have:=row.arr rfl;subst this
   split at he
   ·rename_i j hj _
    obtain⟨info',ds',z',row'⟩:=T.get hj
    simp only at he
    cases hc:Nat.blt 0 j.size && decide (0≤l) && decide (l≤h.getD n) && decide (h.getD n≤n) && Nat.ble (off+n*j.size) (blkLen (getB st b)) && Nat.ble n 1000000 with
    |false=>rw[hc] at he;cases he
    |true=>
     rw[hc] at he
     simp only[cond_true,Option.some.injEq,Prod.mk.injEq] at he
     obtain⟨rfl,rfl⟩:=he
     simp only[Bool.and_eq_true,decide_eq_true_eq] at hc
     obtain⟨⟨⟨⟨⟨hsz,h0⟩,h1⟩,h2⟩,h3⟩,h4⟩:=hc
     have h3:=Nat.le_of_ble_eq_true h3
     have h4:=Nat.le_of_ble_eq_true h4
     have hpos:0<j.size:=by simpa[Nat.blt_eq] using hsz
     refine⟨rfl, ?_⟩
     obtain⟨pb,hpb,rfl⟩:=inv_ptr hu
     have hbd:=run_bounds2 (P:=P) (w:=w) (isSlice:=false) (len:=n) (cap:=n) hl hh h0 h1 h2
     generalize hh' :h.getD n=H at h1 h2 hbd
     have hrun:(Instr.sliceAt t (.pointer (some ⟨pb,off,none⟩)) lo hi none).run P w=
       .ok (.slice (some (if n=l.toNat then⟨pb,off,none⟩ else⟨pb,off+l.toNat*j.size,none⟩)) (H.toNat-l.toNat) (n-l.toNat)) w:=by
      simp[Instr.sliceAt,row.run_und,Instr.sureAddr,hbd,row'.run_size,Addr.add_lit]
     refine⟨_,hrun,.mu _ _ _ _ _ pb _ hpb ?_ (by omega) (by unfold maxLen;omega) (fun h5=> ?_) (fun h5=> ?_)⟩
     ·split<;>rfl
     ·rw[if_neg (by omega)]
     ·have harr: ∃arr e,w.heap[pb]? =some (.cells arr e (0,0))∧blkLen (getB st b)=arr.size:=by
       cases hB:getB st b with
       |none=>
        rw[hB] at h3
        simp only[blkLen] at h3
        have:n*j.size=0:=by omega
        have:0<n*j.size:=Nat.mul_pos (by omega) hpos
        omega
       |some B=>
        obtain⟨b',h6,h7⟩:=R.blocks _ _ hB
        rw[hpb] at h6;cases h6
        cases h7 with
        |cells fz cs arr e hh hs _ _ _=>exact⟨arr,e,hh,by simp[blkLen,hs]⟩
        |ints fz k xs arr e hh hs _ _=>exact⟨arr,e,hh,by simp[blkLen,hs]⟩
      obtain⟨arr,e',h6,h7⟩:=harr
      refine⟨arr,e',h6, ?_⟩
      have:l.toNat*j.size+(n-l.toNat)*j.size=n*j.size:=by rw[←Nat.add_mul];congr 1;omega
      omega
   ·cases he
  ·cases he
 ·cases he
theorem evSlice3_sound (T:TOk P C.tt) {t:Nat} {x v:V} {ow:Bool} {l h m:Int} {u:Value} {lo:Option Value} {kh km:IntKind} (hu:RepV w own β u x)
  (hl:(lo=none∧l=0)∨ ∃k,lo=some (.int k l)) (he:evSlice C st t x l (some h) (some m)=some (v,ow)):
  ∃r,(Instr.sliceAt t u lo (some (.int kh h)) (some (.int km m))).run P w= .ok r w∧RepV w own β r v∧(ow=true→ ∀p,OwnsAt w own p r v):=by
 unfold evSlice at he
 split at he
 ·split at he
  ·rename_i hc;cases hc
  ·cases he
 ·rename_i k nl xs
  split at he
  ·rename_i e _ _ _ _ _ hti
   obtain⟨info,ds,z,row⟩:=T.get hti
   have:=row.slice rfl;subst this
   split at he
   ·rename_i j hj
    obtain⟨info',ds',z',row'⟩:=T.get hj
    simp only[Option.getD_some] at he
    cases hc:Nat.beq j.size 1 && decide (0≤l) && decide (l≤h) && decide (h≤m) && decide (m≤(xs.length:Int)) with
    |false=>rw[hc] at he;cases he
    |true=>
     rw[hc] at he
     simp only[cond_true,Option.some.injEq,Prod.mk.injEq,Option.isSome_some,Bool.true_and] at he
     obtain⟨rfl,rfl⟩:=he
     simp only[Bool.and_eq_true,decide_eq_true_eq] at hc
     obtain⟨⟨⟨⟨hsz,h0⟩,h1⟩,h2⟩,h3⟩:=hc
     have hs1:=Nat.eq_of_beq_eq_true hsz
     have hpd:=inv_d hu
     cases hpd with
     |numsNil=>
      have hb:=run_bounds3 (P:=P) (w:=w) (isSlice:=true) (len:=0) (cap:=0) (kh:=kh) (km:=km) hl h0 h1 h2 (by simpa using h3)
      have hm:m=0:=by simp at h3;omega
      have hh:h=0:=by omega
      have hl0:l=0:=by omega
      subst hm hh hl0
      refine⟨.slice none 0 0, ?_,.d _ _ (by simpa using RepD.numsNil k),fun _ p sz _=> .inl (empty0 _)⟩
      simp[Instr.sliceAt,row.run_und,Instr.slice,hb,row'.run_size]
     |numsE _ ad cap hmx=>
      have hb:=run_bounds3 (P:=P) (w:=w) (isSlice:=true) (len:=0) (cap:=cap) (kh:=kh) (km:=km) hl h0 h1 h2 (by simp at h3;omega)
      have hm:m=0:=by simp at h3;omega
      have hh:h=0:=by omega
      have hl0:l=0:=by omega
      subst hm hh hl0
      have hrun:(Instr.sliceAt t (.slice (some ad) 0 cap) lo (some (.int kh 0)) (some (.int km 0))).run P w= .ok (.slice (some ad) 0 0) w:=by
       simp[Instr.sliceAt,row.run_und,Instr.slice,hb,row'.run_size,hs1]
      exact⟨_,hrun,.d _ _ (by simpa using RepD.numsE k ad 0 (by omega)),fun _ p sz _=> .inl (empty0 _)⟩
     |nums _ b off len cap _ hlen hcap hm hf hw=>
      subst hlen
      have hb:=run_bounds3 (P:=P) (w:=w) (isSlice:=true) (len:=xs.length) (cap:=cap) (kh:=kh) (km:=km) hl h0 h1 h2 (by omega)
      have hrun:(Instr.sliceAt t (.slice (some ⟨b,off,none⟩) xs.length cap) lo (some (.int kh h)) (some (.int km m))).run P w=
        .ok (.slice (some (if m.toNat=l.toNat then⟨b,off,none⟩ else⟨b,off+l.toNat,none⟩)) (h.toNat-l.toNat) (m.toNat-l.toNat)) w:=by
       simp[Instr.sliceAt,row.run_und,Instr.slice,hb,row'.run_size,hs1,Addr.add_lit]
       split<;>rfl
      have hlen:((xs.take h.toNat).drop l.toNat).length=h.toNat-l.toNat:=by simp;omega
      have hget: ∀(i:Nat) (x:Int),((xs.take h.toNat).drop l.toNat)[i]? =some x→xs[l.toNat+i]? =some x∧l.toNat+i<h.toNat:=by
       intro i x hx
       rw[List.getElem?_drop,List.getElem?_take] at hx
       split at hx
       ·exact⟨hx,by assumption⟩
       ·cases hx
      refine⟨_,hrun,.d _ _ ?_,fun how p sz _=> .inr ?_⟩
      ·by_cases hcl:m.toNat=l.toNat
       ·rw[if_pos hcl]
        exact .nums k b off _ _ _ hlen (by omega) (by omega) (fun i x hx=>by have:=hget i x hx;omega) (fun i x hx=>hw _ x (hget i x hx).1)
       ·rw[if_neg hcl]
        exact .nums k b _ _ _ _ hlen (by omega) (by omega) (fun i x hx=>by rw[Nat.add_assoc];exact hf _ x (hget i x hx).1) (fun i x hx=>hw _ x (hget i x hx).1)
      ·have:h=m:=by simpa using how
       subst this
       split
       ·exact⟨_,_,_,_,rfl,.inl rfl⟩
       ·exact⟨_,_,_,_,rfl,.inl rfl⟩
   ·cases he
  ·cases he
 ·rename_i sz nl xs
  split at he
  ·rename_i e _ _ _ _ _ hti
   obtain⟨info,ds,z,row⟩:=T.get hti
   have:=row.slice rfl;subst this
   split at he
   ·rename_i j hj
    obtain⟨info',ds',z',row'⟩:=T.get hj
    simp only[Option.getD_some] at he
    cases hc:Nat.beq j.size sz && decide (0≤l) && decide (l≤h) && decide (h≤m) && decide (m≤(xs.length:Int)) with
    |false=>rw[hc] at he;cases he
    |true=>
     rw[hc] at he
     simp only[cond_true,Option.some.injEq,Prod.mk.injEq,Option.isSome_some,Bool.true_and] at he
     obtain⟨rfl,rfl⟩:=he
     simp only[Bool.and_eq_true,decide_eq_true_eq] at hc
     obtain⟨⟨⟨⟨hsz,h0⟩,h1⟩,h2⟩,h3⟩:=hc
     have hs1:=Nat.eq_of_beq_eq_true hsz
     have hpd:=inv_d hu
     cases hpd with
     |slNil=>
      have hb:=run_bounds3 (P:=P) (w:=w) (isSlice:=true) (len:=0) (cap:=0) (kh:=kh) (km:=km) hl h0 h1 h2 (by simpa using h3)
      have hm:m=0:=by simp at h3;omega
      have hh:h=0:=by omega
      have hl0:l=0:=by omega
      subst hm hh hl0
      refine⟨.slice none 0 0, ?_,.d _ _ (by simpa using RepD.slNil sz),fun _ p sz _=> .inl (empty0 _)⟩
      simp[Instr.sliceAt,row.run_und,Instr.slice,hb,row'.run_size]
     |slE _ ad cap hmx=>
      have hb:=run_bounds3 (P:=P) (w:=w) (isSlice:=true) (len:=0) (cap:=cap) (kh:=kh) (km:=km) hl h0 h1 h2 (by simp at h3;omega)
      have hm:m=0:=by simp at h3;omega
      have hh:h=0:=by omega
      have hl0:l=0:=by omega
      subst hm hh hl0
      have hrun:(Instr.sliceAt t (.slice (some ad) 0 cap) lo (some (.int kh 0)) (some (.int km 0))).run P w= .ok (.slice (some ad) 0 0) w:=by
       simp[Instr.sliceAt,row.run_und,Instr.slice,hb,row'.run_size,hs1]
      exact⟨_,hrun,.d _ _ (by simpa using RepD.slE sz ad 0 (by omega)),fun _ p sz _=> .inl (empty0 _)⟩
     |sl _ b off len cap _ val hlen hcap hm hsz' hf hr=>
      subst hlen
      have hb:=run_bounds3 (P:=P) (w:=w) (isSlice:=true) (len:=xs.length) (cap:=cap) (kh:=kh) (km:=km) hl h0 h1 h2 (by omega)
      have hrun:(Instr.sliceAt t (.slice (some ⟨b,off,none⟩) xs.length cap) lo (some (.int kh h)) (some (.int km m))).run P w=
        .ok (.slice (some (if m.toNat=l.toNat then⟨b,off,none⟩ else⟨b,off+l.toNat*sz,none⟩)) (h.toNat-l.toNat) (m.toNat-l.toNat)) w:=by
       simp[Instr.sliceAt,row.run_und,Instr.slice,hb,row'.run_size,hs1,Addr.add_lit]
       split<;>rfl
      have hlen:((xs.take h.toNat).drop l.toNat).length=h.toNat-l.toNat:=by simp;omega
      have hget: ∀(i:Nat) (x:List D),((xs.take h.toNat).drop l.toNat)[i]? =some x→xs[l.toNat+i]? =some x∧l.toNat+i<h.toNat:=by
       intro i x hx
       rw[List.getElem?_drop,List.getElem?_take] at hx
       split at hx
       ·exact⟨hx,by assumption⟩
       ·cases hx
      refine⟨_,hrun,.d _ _ ?_,fun how p sz' _=> .inr ?_⟩
      ·by_cases hcl:m.toNat=l.toNat
       ·rw[if_pos hcl]
        exact .sl sz b off _ _ _ (fun i r=>val (l.toNat+i) r) hlen (by omega) (by omega) (fun i c hx=>hsz' _ c (hget i c hx).1) (fun i r c x hx=>by have:=hget i c hx;omega)
         (fun i r c x hx h2=>hr _ r c x (hget i c hx).1 h2)
       ·rw[if_neg hcl]
        exact .sl sz b _ _ _ _ (fun i r=>val (l.toNat+i) r) hlen (by omega) (by omega) (fun i c hx=>hsz' _ c (hget i c hx).1)
         (fun i r c x hx h2=>by rw[show off+l.toNat*sz+i*sz+r=off+(l.toNat+i)*sz+r by rw[Nat.add_mul];omega];exact hf _ r c x (hget i c hx).1 h2)
         (fun i r c x hx h2=>hr _ r c x (hget i c hx).1 h2)
      ·have:h=m:=by simpa using how
       subst this
       split
       ·exact⟨_,_,_,_,rfl,.inl rfl⟩
       ·exact⟨_,_,_,_,rfl,.inl rfl⟩
   ·cases he
  ·cases he
 ·split at he
  ·split at he
   ·rename_i hc;cases hc
   ·cases he
  ·cases he
 ·split at he
  ·split at he
   ·rename_i hc;cases hc
   ·cases he
  ·cases he
 ·cases he
theorem slice_sound (T:TOk P C.tt) (R:Rel C st a w own β) {t:Nat} {x:Operand} {lo hi mx:Option Operand} (hop:o.op= .slice t x lo hi mx) (hd: ∀t,o.dst=some t→t<a.tmps.size) {slot:Option Nat}
  (h:evOp C slot o st=some st') (hn:Next C st w own β a.tmps.size st' next):o.wp P a w next Q:=by
 simp only[evOp,hop] at h
 split at h
 ·rename_i v l hv hl
  have hpr:=evO_sound R hv
  have hlo:=bnd_sound R hl
  split at h
  ·split at h
   ·rename_i r ow hr
    cases h
    obtain⟨rfl,y,hrun,hy⟩:=evSlice2_sound (P:=P) (h:=none) (hi:=none) T R hpr hlo trivial hr
    have hrun' :(execOp a.eval o).run P w= .ok (.value y) w:=by simp[execOp,hop,hrun]
    exact wp_value hrun' (next_own R hd hy (fun h=>by cases h) hn)
   ·cases h
  ·rename_i oh
   split at h
   ·rename_i hh hbh
    split at h
    ·rename_i r ow hr
     cases h
     have hb2:=bnd_sound R hbh
     rcases hb2 with⟨h1,_⟩|⟨k,hk⟩
     ·cases h1
     ·obtain⟨rfl,y,hrun,hy⟩:=evSlice2_sound (P:=P) (h:=some hh) (hi:=some (.int k hh)) T R hpr hlo ⟨k,rfl⟩ hr
      have hk' :a.eval oh= .int k hh:=by simpa using hk
      have hrun' :(execOp a.eval o).run P w= .ok (.value y) w:=by simp[execOp,hop,hk',hrun]
      exact wp_value hrun' (next_own R hd hy (fun h=>by cases h) hn)
    ·cases h
   ·cases h
  ·rename_i oh om
   split at h
   ·rename_i hh mm hbh hbm
    split at h
    ·rename_i r ow hr
     cases h
     rcases bnd_sound R hbh with⟨h1,_⟩|⟨k,hk⟩
     ·cases h1
     ·rcases bnd_sound R hbm with⟨h1,_⟩|⟨k2,hk2⟩
      ·cases h1
      ·obtain⟨y,hrun,hy,how⟩:=evSlice3_sound (P:=P) (kh:=k) (km:=k2) T hpr hlo hr
       have hk' :a.eval oh= .int k hh:=by simpa using hk
       have hk2' :a.eval om= .int k2 mm:=by simpa using hk2
       have hrun' :(execOp a.eval o).run P w= .ok (.value y) w:=by simp[execOp,hop,hk',hk2',hrun]
       exact wp_value hrun' (next_own R hd hy how hn)
    ·cases h
   ·cases h
  ·cases h
 ·cases h
end Go.VM
set_option linter.unusedSimpArgs false
set_option linter.unusedVariables false
namespace Go.VM
open Go
variable {P : Program} {C : Ctx} {st st' : St} {a : Act} {w : World} {own : Own} {β : Nat → Option Nat}
variable {o : Oper} {next : Act → World → Prop} {Q : Exit → Act → World → Prop}
theorem fold_get (off:Nat): ∀(l:List Value) (k:Nat) (cells:Array Value),off+k+l.length≤cells.size→ ∀m:Nat,
  ((l.zipIdx k).foldl (fun cs (c:Value×Nat)=>cs.setIfInBounds (off+c.2) c.1) cells)[m]? =
   if m<off+k then cells[m]? else if m<off+k+l.length then l[m-(off+k)]? else cells[m]?
 |[],k,cells,_,m=>by simp;intros;omega
 |x::l,k,cells,h,m=>by
  simp only[List.zipIdx_cons,List.foldl_cons,List.length_cons] at h⊢
  rw[fold_get off l (k+1) _ (by simp;omega) m,Array.getElem?_setIfInBounds]
  by_cases h1:m<off+k
  ·rw[if_pos (by omega),if_neg (by omega),if_pos h1]
  ·rw[if_neg h1]
   by_cases h2:m=off+k
   ·subst h2
    rw[if_pos (by omega),if_pos rfl,if_pos (by omega),if_pos (by omega)]
    simp
   ·by_cases h3:m<off+(k+1)+l.length
    ·rw[if_neg (by omega),if_pos h3,if_pos (by omega),show m-(off+k)=(m-(off+(k+1)))+1 by omega,List.getElem?_cons_succ]
    ·rw[if_neg (by omega),if_neg h3,if_neg (by omega),if_neg (by omega)]
theorem fold_splice (off:Nat) (new cells:Array Value) (h:off+new.size≤cells.size):
  new.zipIdx.foldl (fun cs (c,j)=>cs.setIfInBounds (off+j) c) cells=(splice off new.toList cells.toList).toArray:=by
 rw[←Array.foldl_toList,Array.toList_zipIdx]
 apply Array.ext_getElem?
 intro m
 have:=fold_get off new.toList 0 cells (by simpa using h) m
 simp only[Nat.add_zero] at this
 rw[this]
 have h2:=splice_get off new.toList cells.toList (by simpa using h) m
 simp only[Array.getElem?_toList] at h2⊢
 rw[←h2]
 simp
theorem fill_sound {place:Nat→Option (Nat×Nat)}: ∀ {ps:List (Nat×Nat×V)} {parts:List (Nat×Value)} {cells:Array Value} {cs cs' :List V},
  ps.length=parts.length→(∀(j off sz:Nat) (v:V),ps[j]? =some (off,sz,v)→ ∃i u,parts[j]? =some (i,u)∧place i=some (off,sz)∧RepV w own β u v)→
  RepL w own β cells cs→fillV cs ps=some cs' → ∃cells',Instr.fill place cells parts=some cells' ∧RepL w own β cells' cs' ∧cells'.size=cells.size
 |[],parts,cells,cs,cs',hl,_,hc,h=>by
  have:parts=[]:=List.eq_nil_of_length_eq_zero (by simpa using hl.symm)
  subst this
  simp[fillV] at h;subst h
  exact⟨cells,rfl,hc,rfl⟩
 |(off,sz,v)::ps,[],_,_,_,hl,_,_,_=>by simp at hl
 |(off,sz,v)::ps,(i,u)::parts,cells,cs,cs',hl,hp,hc,h=>by
  obtain⟨i',u',h1,h2,h3⟩:=hp 0 off sz v rfl
  simp only[List.getElem?_cons_zero,Option.some.injEq,Prod.mk.injEq] at h1
  obtain⟨rfl,rfl⟩:=h1
  simp only[fillV] at h
  split at h
  ·rename_i new hnew
   have hnr:=cellsV_sound h3 hnew
   cases hck:Nat.beq new.length sz && Nat.ble (off+sz) cs.length with
   |false=>rw[hck] at h;cases h
   |true=>
    rw[hck] at h
    simp only[cond_true] at h
    rw[Bool.and_eq_true] at hck
    have e1:=Nat.eq_of_beq_eq_true hck.1
    have e2:=Nat.le_of_ble_eq_true hck.2
    have hs:=hc.1
    have hns:=hnr.1
    have hspl:=hc.splice hnr (by omega:off+new.length≤cs.length)
    obtain⟨cells',f1,f2,f3⟩:=fill_sound (ps:=ps) (parts:=parts) (by simpa using hl) (fun j off sz v hj=>by
     obtain⟨i,u,g1,g2,g3⟩:=hp (j+1) off sz v (by simpa using hj)
     exact⟨i,u,by simpa using g1,g2,g3⟩) hspl h
    refine⟨cells', ?_,f2, ?_⟩
    ·simp only[Instr.fill,h2]
     rw[fold_splice off u.cells cells (by omega)]
     have c1: ¬u.cells.size≠sz:=by omega
     have c2: ¬off+u.cells.size>cells.size:=by omega
     simp only[c1,c2,decide_false,Bool.or_self,Bool.false_eq_true,if_false]
     exact f1
    ·rw[f3,hspl.1,splice_length _ _ _ (by omega),hs]
  ·cases h
theorem partsAt_sound (T:TOk P C.tt) (R:Rel C st a w own β) {pl:Nat→Option (Nat×Nat)}: ∀ {l:List (Nat×Operand)} {ps:List (Nat×Nat×V)},partsAt C st pl l=some ps→
  ps.length=l.length∧ ∀(j off sz:Nat) (v:V),ps[j]? =some (off,sz,v)→ ∃i x ft jt,l[j]? =some (i,x)∧pl i=some (off,ft)∧C.tt ft=some jt∧jt.size=sz∧RepV w own β (a.eval x) v
 |[],ps,h=>by simp[partsAt] at h;subst h;exact⟨rfl,fun j off sz v h=>by simp at h⟩
 |(i,x)::l,ps,h=>by
  simp only[partsAt] at h
  split at h
  ·rename_i off ft hpl
   split at h
   ·rename_i jt v hjt hv
    split at h
    ·rename_i r hr
     cases h
     obtain⟨h1,h2⟩:=partsAt_sound T R hr
     refine⟨by simp[h1],fun j off' sz v' hj=> ?_⟩
     cases j with
     |zero=>
      simp only[List.getElem?_cons_zero,Option.some.injEq,Prod.mk.injEq] at hj
      obtain⟨rfl,rfl,rfl⟩:=hj
      exact⟨i,x,ft,jt,rfl,hpl,hjt,rfl,evO_sound R hv⟩
     |succ j=>simpa using h2 j off' sz v' (by simpa using hj)
    ·cases h
   ·cases h
  ·cases h
theorem repL_zero (T:TOk P C.tt) {t:Nat} {i:TI} (hi:C.tt t=some i): ∃z,(∀w,(zeroValue t).run P w= .ok z w)∧RepL w own β z.cells (i.zero.map .d)∧z.cells.size=i.size:=by
 obtain⟨info,d,z,r⟩:=T.get hi
 obtain⟨z1,z2⟩:=zcells_sound r.zc w own
 simp only[getD_toList,Array.length_toList] at z1 z2
 refine⟨z,fun w=>r.run_zero w,⟨by simpa using z1,fun j hj=> ?_,fun j x hx=> ?_⟩,by rw[z1,r.zl]⟩
 ·have:j<i.zero.length:=by omega
  exact(z2 j i.zero[j] (by simp[this])).2
 ·simp only[List.getElem?_map,Option.map_eq_some_iff] at hx
  obtain⟨d,h3,rfl⟩:=hx
  exact .d _ _ (z2 j d h3).1
theorem map_parts (f:Operand→Value) (ps:Array (Nat×Operand)):(ps.map fun(i,x)=>(i,f x)).toList=ps.toList.map fun p=>(p.1,f p.2):=by simp
theorem run_places: ∀(l:List Field),(∀f∈l,(P.info? f.type).isSome=true)→
  (l.mapM (fun f=>do pure (f.offset,←sizeOf f.type)):Sem (List (Nat×Nat))).run P w= .ok (l.map fun f=>(f.offset,P.cellsOf f.type)) w
 |[],_=>by simp
 |f::l,h=>by
  have h1:=h f (by simp)
  obtain⟨i,hi⟩:=Option.isSome_iff_exists.1 h1
  have ih:=run_places l (fun g hg=>h g (by simp[hg]))
  rw[List.mapM_cons]
  simp only[Sem.run_bind,run_sizeOf w hi,Result.andThen_ok,Sem.run_pure,ih,List.map_cons]
theorem build_sound (T:TOk P C.tt) (R:Rel C st a w own β) {t:Nat} {parts:Array (Nat×Operand)} (hop:o.op= .build t parts) (hd: ∀t,o.dst=some t→t<a.tmps.size) {slot:Option Nat}
  (h:evOp C slot o st=some st') (hn:Next C st w own β a.tmps.size st' next):o.wp P a w next Q:=by
 simp only[evOp,hop] at h
 split at h
 ·rename_i v hv
  cases h
  unfold evBuild at hv
  split at hv
  ·rename_i i hi
   obtain⟨z,hz,hzr,hzs⟩:=repL_zero (w:=w) (own:=own) (β:=β) T hi
   obtain⟨info,ds,z',row⟩:=T.get hi
   split at hv
   ·rename_i fs hk
    obtain⟨gs,rfl,hgs,_⟩:=row.struct hk
    split at hv
    ·rename_i ps hps
     split at hv
     ·rename_i cs hcs
      cases hv
      obtain⟨h1,h2⟩:=partsAt_sound T R hps
      have hpl: ∃places:Array (Nat×Nat),(gs.mapM fun f=>do pure (f.offset,←sizeOf f.type):Sem _).run P w= .ok places w∧
        ∀(i off ft:Nat) (jt:TI),fs[i]? =some (off,ft)→C.tt ft=some jt→places[i]? =some (off,jt.size):=by
       have hall: ∀f∈gs.toList,(P.info? f.type).isSome=true:=by
        have:=row.fl
        simp only[fieldsOk,List.all_eq_true] at this
        exact this
       have hm:=run_places (w:=w) gs.toList hall
       refine⟨(gs.toList.map fun f=>(f.offset,P.cellsOf f.type)).toArray, ?_,fun i off ft jt h3 h4=> ?_⟩
       ·rw[Array.mapM_eq_mapM_toList]
        simp only[Sem.run_map,hm,Result.andThen_ok]
       ·rw[←hgs] at h3
        simp only[List.getElem?_map,Option.map_eq_some_iff] at h3
        obtain⟨g,h5,h6⟩:=h3
        simp only[Prod.mk.injEq] at h6
        obtain⟨info',ds',z'',row'⟩:=T.get h4
        rw[List.getElem?_toArray,List.getElem?_map,h5]
        simp[h6.1,h6.2,Program.cellsOf,row'.hinfo,row'.size]
      obtain⟨places,hpr,hpg⟩:=hpl
      obtain⟨cells',f1,f2,f3⟩:=fill_sound (place:=(places[·]?)) (parts:=parts.toList.map fun p=>(p.1,a.eval p.2)) (by simpa using h1) (fun j off sz v hj=>by
       obtain⟨i,x,ft,jt,g1,g2,g3,g4,g5⟩:=h2 j off sz v hj
       refine⟨i,a.eval x,by simp[g1], ?_,g5⟩
       rw[←g4];exact hpg i off ft jt g2 g3) hzr hcs
      have hrun:(execOp a.eval o).run P w= .ok (.value (.agg cells')) w:=by
       simp only[execOp,hop,Instr.build,Sem.run_bind,hz,row.run_und,Result.andThen_ok,hpr]
       rw[map_parts,f1]
       simp
      exact wp_value hrun (next_put R hd (mkAgg_sound f2) hn)
     ·cases hv
    ·cases hv
   ·rename_i n e hk
    have:=row.arr hk;subst this
    split at hv
    ·rename_i j hj
     obtain⟨info',ds',zz',row'⟩:=T.get hj
     split at hv
     ·rename_i ps hps
      split at hv
      ·rename_i cs hcs
       cases hv
       obtain⟨h1,h2⟩:=partsAt_sound T R hps
       obtain⟨cells',f1,f2,f3⟩:=fill_sound (place:=fun i=>some (i*j.size,j.size)) (parts:=parts.toList.map fun p=>(p.1,a.eval p.2)) (by simpa using h1) (fun jj off sz v hj' =>by
        obtain⟨i,x,ft,jt,g1,g2,g3,g4,g5⟩:=h2 jj off sz v hj'
        simp only[Option.some.injEq,Prod.mk.injEq] at g2
        obtain⟨rfl,rfl⟩:=g2
        rw[hj] at g3;cases g3
        exact⟨i,a.eval x,by simp[g1],by rw[g4],g5⟩) hzr hcs
       have hrun:(execOp a.eval o).run P w= .ok (.value (.agg cells')) w:=by
        simp only[execOp,hop,Instr.build,Sem.run_bind,hz,row.run_und,Result.andThen_ok,row'.run_size]
        rw[map_parts,f1]
        simp
       exact wp_value hrun (next_put R hd (mkAgg_sound f2) hn)
      ·cases hv
     ·cases hv
    ·cases hv
   ·cases hv
  ·cases hv
 ·cases h
theorem rep_length {α:Type} (n:Nat) (l:List α):(rep n l).length=n*l.length:=by
 induction n with
 |zero=>simp[rep]
 |succ n ih=>simp[rep,ih,Nat.succ_mul];omega
theorem rep_get {α:Type}: ∀(n:Nat) (l:List α) (j:Nat),j<n*l.length→(rep n l)[j]? =l[j % l.length]?
 |0,l,j,h=>by simp at h
 |n+1,l,j,h=>by
  simp only[rep]
  rw[List.getElem?_append]
  by_cases h1:j<l.length
  ·rw[if_pos h1,Nat.mod_eq_of_lt h1]
  ·rw[if_neg h1,rep_get n l _ (by rw[Nat.succ_mul] at h;omega),←Nat.mod_eq_sub_mod (by omega)]
theorem rangeMap_getD (z:Array Value) (n j:Nat) (hj:j<n):((Array.range n).map (z[· % z.size]!)).getD j undef=z[j % z.size]! :=by
 simp[Array.getD,hj]
theorem getBang (z:Array Value) {j:Nat} (h:j<z.size):z[j]! =z.getD j undef:=by
 simp[Array.getD,h,getElem!_pos]
theorem repL_rep {z:Array Value} {zs:List V} {n:Nat} (h:RepL w own β z zs) (hpos:0<z.size):RepL w own β ((Array.range (n*z.size)).map (z[· % z.size]!)) (rep n zs):=by
 have hs:=h.1
 refine⟨by simp[rep_length,hs],fun j hj=> ?_,fun j x hx=> ?_⟩
 ·have hj' :j<n*z.size:=by simpa using hj
  have hm:=Nat.mod_lt j hpos
  rw[rangeMap_getD z _ j hj',getBang z hm];exact h.2.1 _ hm
 ·have hj:j<n*z.size:=by
   have:=(List.getElem?_eq_some_iff.1 hx).1
   rw[rep_length] at this;rw[hs];exact this
  have hm:=Nat.mod_lt j hpos
  rw[rep_get n zs j (by rw[←hs];exact hj)] at hx
  rw[rangeMap_getD z _ j hj,getBang z hm]
  exact h.2.2 _ x (by rw[hs];exact hx)
theorem chunk_flat {α:Type} {sz n:Nat} {l:List α} {i r:Nat} {c:List α} {x:α} (hl:l.length=n*sz) (h1:(chunk sz n l)[i]? =some c) (h2:c[r]? =some x):
  r<sz∧i*sz+r<n*sz∧l[i*sz+r]? =some x:=by
 obtain⟨hi,hcc⟩:=chunk_get sz n l i c h1
 have hr:r<sz:=by
  have:=(List.getElem?_eq_some_iff.1 h2).1
  rw[hcc] at this;simp at this;omega
 have:(i+1)*sz≤n*sz:=Nat.mul_le_mul_right _ hi
 rw[Nat.succ_mul] at this
 refine⟨hr,by omega, ?_⟩
 rw[hcc,List.getElem?_take,if_pos hr,List.getElem?_drop] at h2
 exact h2
theorem rep_new_sl (R:Rel C st a w own β) {n sz:Nat} {arr:Array Value} {e:TypeId} {ds:List D} (hc:RepL w own β arr (ds.map .d)) (hl:ds.length=n*sz) (hm:n≤maxLen):
  RepD (w.alloc (.cells arr e (0,0))) own (.slice (some ⟨w.heap.size,0,none⟩) n n) (.sl sz false (chunk sz n ds)):=by
 obtain⟨R1,E1⟩:=R.allocFree (w' :=w.alloc (.cells arr e (0,0))) rfl rfl rfl rfl
 have hnew:=heap_alloc_new w (.cells arr e (0,0))
 have hs:=hc.1
 simp at hs
 refine .sl sz _ 0 n n _ (fun i r=>arr.getD (i*sz+r) undef) (chunk_length _ _ _) (Nat.le_refl _) hm (fun i c h=> ?_) (fun i r c x h1 h2=> ?_) (fun i r c x h1 h2=> ?_)
 ·obtain⟨hi,hcc⟩:=chunk_get sz n ds i c h
  have:(i+1)*sz≤n*sz:=Nat.mul_le_mul_right _ hi
  rw[Nat.succ_mul] at this
  rw[hcc];simp;omega
 ·obtain⟨h3,h4,h5⟩:=chunk_flat hl h1 h2
  rw[Nat.zero_add]
  have:=fc_block hnew (own_fresh R) (j:=i*sz+r) (by omega) (hc.2.1 _ (by omega))
  exact this
 ·obtain⟨h3,h4,h5⟩:=chunk_flat hl h1 h2
  exact inv_d ((hc.2.2 (i*sz+r) (.d x) (by simp[h5])).mono E1.sub E1.wide (fun _ _ h=>h))
theorem buildSlice_sound (T:TOk P C.tt) (R:Rel C st a w own β) {t n:Nat} {parts:Array (Nat×Operand)} (hop:o.op= .buildSlice t n parts) (hd: ∀t,o.dst=some t→t<a.tmps.size) {slot:Option Nat} (hs:SlotOk st slot)
  (h:evOp C slot o st=some st') (hn:Next C st w own β a.tmps.size st' next):o.wp P a w next Q:=by
 simp only[evOp,hop] at h
 split at h
 ·rename_i cs j hlit
  unfold litCells at hlit
  split at hlit
  ·rename_i e _ _ _ _ _ hti
   obtain⟨info,ds,z',row⟩:=T.get hti
   have:=row.slice rfl;subst this
   split at hlit
   ·rename_i j' hj
    cases hck:Nat.ble (n*j'.size) 16777216 && Nat.blt 0 j'.size with
    |false=>rw[hck] at hlit;cases hlit
    |true=>
    rw[hck] at hlit
    simp only[cond_true] at hlit
    rw[Bool.and_eq_true] at hck
    have hle:=Nat.le_of_ble_eq_true hck.1
    have hpos:0<j'.size:=by simpa[Nat.blt_eq] using hck.2
    split at hlit
    ·rename_i ps hps
     split at hlit
     ·rename_i cs' hcs
      cases hlit
      obtain⟨z,hz,hzr,hzs⟩:=repL_zero (w:=w) (own:=own) (β:=β) T hj
      obtain⟨_,_,_,rowj⟩:=T.get hj
      obtain⟨h1,h2⟩:=partsAt_sound T R hps
      have h0:=repL_rep (n:=n) hzr (by omega)
      obtain⟨cells',f1,f2,f3⟩:=fill_sound (place:=fun i=>some (i*j.size,j.size)) (parts:=parts.toList.map fun p=>(p.1,a.eval p.2)) (by simpa using h1) (fun jj off sz v hj' =>by
       obtain⟨i,x,ft,jt,g1,g2,g3,g4,g5⟩:=h2 jj off sz v hj'
       simp only[Option.some.injEq,Prod.mk.injEq] at g2
       obtain⟨rfl,rfl⟩:=g2
       rw[hj] at g3;cases g3
       exact⟨i,a.eval x,by simp[g1],by rw[g4],g5⟩) h0 hcs
      have hnm:n≤maxLen:=by
       have:n*1≤n*j.size:=Nat.mul_le_mul_left _ hpos
       unfold maxLen;omega
      have hsz:cells'.size=n*j.size:=by rw[f3];simp[hzs]
      have hrun:(execOp a.eval o).run P w= .ok (.value (.slice (some ⟨w.heap.size,0,none⟩) n n)) (w.alloc (.cells cells' e (0,0))):=by
       have c1: ¬n*j.size>2^24:=by omega
       simp only[execOp,hop,Instr.buildSlice,Sem.run_bind,row.run_und,Result.andThen_ok,rowj.run_size,c1,if_false]
       by_cases c2:n*j.size=0
       ·rw[map_parts]
        have e0:n*z.cells.size=0:=by rw[hzs];exact c2
        have e1:((Array.range (n*z.cells.size)).map (z.cells[· % z.cells.size]!))= #[]   :=by rw[e0];apply Array.eq_empty_of_size_eq_zero;simp
        rw[e1] at f1
        have e3: ∀f:Nat→Value,Array.map f (Array.range 0)= #[]:=fun f=>Array.eq_empty_of_size_eq_zero (by simp)
        simp[c2,e3,f1,newRow]
       ·rw[map_parts]
        rw[hzs] at f1
        simp[c2,hz,f1,newRow,hzs]
      refine wp_value hrun ?_
      obtain⟨R1,E1⟩:=R.allocFree (w' :=w.alloc (.cells cells' e (0,0))) rfl rfl rfl rfl
      have hnew:=heap_alloc_new w (.cells cells' e (0,0))
      have hex: ∀(x:V) (p:Pl),OwnsAt (w.alloc (.cells cells' e (0,0))) own p (.slice (some ⟨w.heap.size,0,none⟩) n n) x:=fun x p sz _=> .inr ⟨_,_,_,_,rfl,.inl rfl⟩
      split at h
      ·rename_i _ k ns hk hns
       cases h
       have hall:=allI_some hns
       rw[hk] at hall
       simp only at hall
       subst hall
       have hs1:j.size=1:=rowj.one hk
       refine next_own R1 hd (.d _ _ ?_) (fun _ p=>hex _ p) (Next.of E1 (Nat.le_refl _) (fun _ _ _ h=>h) hn)
       rw[hs1,Nat.mul_one] at hsz
       have hl:=f2.1
       simp at hl
       refine .nums k _ 0 n n ns (by omega) (Nat.le_refl _) hnm (fun i x hx=> ?_) (fun i x hx=> ?_)
       ·have:=inv_int (f2.2.2 i (.d (.int k x)) (by simp[hx]))
        have hlt:i<cells'.size:=by have:=(List.getElem?_eq_some_iff.1 hx).1;omega
        have hf:=fc_block hnew (own_fresh R) hlt (f2.2.1 _ hlt)
        rw[this.1] at hf
        rw[Nat.zero_add];exact hf
       ·exact(inv_int (f2.2.2 i (.d (.int k x)) (by simp[hx]))).2
      ·cases h
      ·rename_i ds hds _ _
       cases h
       have hds' :=allD_some hds
       subst hds'
       have hl:=f2.1
       simp at hl
       exact next_own R1 hd (.d _ _ (rep_new_sl R f2 (by omega) hnm)) (fun _ p=>hex _ p) (Next.of E1 (Nat.le_refl _) (fun _ _ _ h=>h) hn)
      ·cases h
       have R2:=R.newB hs (B:= .cells false cs) (arr:=cells') (e:=e) (fun own' β' hβ hsub ho=>
        .cells false cs cells' e hnew f2.1 f2.2.1 (fun j x hx=>(f2.2.2 j x hx).mono hsub (wide_alloc w _) hβ) (by simpa using ho))
       have R3:=R2.put (d:=o.dst) (x:= .mu (st.new slot (.cells false cs)).1 0 n n j.size) (v:= .slice (some ⟨w.heap.size,0,none⟩) n n) hd
        (.mu _ _ _ _ _ w.heap.size _ (by simp[setβ]) rfl (Nat.le_refl _) hnm (fun _=>rfl) (fun _=>⟨cells',e,hnew,by omega⟩))
       exact hn _ _ _ _ R3 (ext_alloc w own _ _ R.plain_lt) (fun i hi b hb=>le_setβ (R.slotNone hs _) i b hb) (size_put a _ _)
     ·cases hlit
    ·cases hlit
   ·cases hlit
  ·cases hlit
 ·cases h
end Go.VM
