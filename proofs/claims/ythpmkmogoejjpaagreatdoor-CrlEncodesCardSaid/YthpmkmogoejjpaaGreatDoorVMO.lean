/- The machine over values: code, and functions. -/
import Derived.Test.YthpmkmogoejjpaaGreatDoorVMN
import Derived.LoopN
import Derived.Scope
set_option linter.unusedSimpArgs false
set_option linter.unusedVariables false
namespace Go.VM
open Go
variable {P : Program} {C : Ctx}
def Ex.exit':Ex→Exit
 | .normal=> .normal
 | .exit id=> .exit id
 | .ret=> .ret
def okC (live:Nat→List Nat) (N:Nat):Code→Bool
 | .region id ops draw=>ops.toList.all (dstOk N) && (!draw||drawOk ops (live (id+200000)) (live (id+250000)))
 | .seq a b=>okC live N a && okC live N b
 | .cond _ a b=>okC live N a && okC live N b
 | .block _ c=>okC live N c
 | .loop c=>okC live N c
 | .scope c=>okC live N c
 |_=>true
def Fin (C:Ctx) (w:World) (own:Own) (β:Nat→Option Nat) (n N:Nat) (e:Ex) (st' :St) (Q:Exit→Act→World→Prop):Prop:=
 ∀a' w' own' β',Rel C st' a' w' own' β' →Ext w own w' own' →(∀i,i<n→ ∀b,β i=some b→β' i=some b)→a'.tmps.size=N→Q e.exit' a' w'
theorem iter_sound {c:Code} {fuel N n:Nat} {live out:List Nat} {Q:Exit→Act→World→Prop} {w0:World} {own0:Own} {β0:Nat→Option Nat} {e:Ex} {st' :St}
  (ih: ∀ {st:St} {e:Ex} {st' :St} {a:Act} {w:World} {own:Own} {β:Nat→Option Nat} {Q:Exit→Act→World→Prop},Rel C st a w own β→a.tmps.size=N→
   ev C fuel c st=some (e,st')→Fin C w own β st.blocks.length N e st' Q→c.wp P Q a w)
  (hf:Fin C w0 own0 β0 n N e st' Q): ∀ {k:Nat} {st:St} {a:Act} {w:World} {own:Own} {β:Nat→Option Nat},Rel C st a w own β→a.tmps.size=N→
   Ext w0 own0 w own→(∀i,i<n→ ∀b,β0 i=some b→β i=some b)→iter (ev C fuel c) n live out k st=some (e,st')→Code.rounds P c Q k a w
 |0,st,a,w,own,β,R,hN,E,hb,h=>by simp[iter] at h
 |k+1,st,a,w,own,β,R,hN,E,hb,h=>by
  simp only[iter] at h
  obtain⟨R1,E1⟩:=R.trim n live
  have hlen: ∀i,i<n→ ∀b,β0 i=some b→i<(st.trim n live).blocks.length∧cut n β i=some b:=by
   intro i hi b h0
   have h1:=hb i hi b h0
   refine⟨?_,by simp[cut,hi,h1]⟩
   simp only[St.trim,List.length_map,List.length_take]
   rcases Nat.lt_or_ge i st.blocks.length with h5|h5
   ·omega
   ·rw[R.fresh i h5] at h1;cases h1
  rw[rounds_succ]
  split at h
  ·rename_i s1 h1
   refine ih R1 hN h1 (fun a' w' own' β' R' E' hb' hN' => ?_)
   exact iter_sound ih hf R' hN' (E.trans (E1.trans E')) (fun i hi b h0=>hb' i (hlen i hi b h0).1 b (hlen i hi b h0).2) h
  ·rename_i e1 s1 hne h1
   cases h
   refine ih R1 hN h1 (fun a' w' own' β' R' E' hb' hN' => ?_)
   have:=hf a' w' own' β' (R'.prune out) (E.trans (E1.trans E')) (fun i hi b h0=>hb' i (hlen i hi b h0).1 b (hlen i hi b h0).2) hN'
   cases e with
   |normal=>exact absurd rfl (hne)
   |exit id=>exact this
   |ret=>exact this
  ·cases h
theorem ev_sound (T:TOk P C.tt) (K:CallsOk P C) (M:P.follows .mixedOrders=true) {fuel N:Nat}: ∀ {c:Code},okC C.live N c=true→ ∀ {st:St} {e:Ex} {st' :St} {a:Act} {w:World} {own:Own} {β:Nat→Option Nat} {Q:Exit→Act→World→Prop},
  Rel C st a w own β→a.tmps.size=N→ev C fuel c st=some (e,st')→Fin C w own β st.blocks.length N e st' Q→c.wp P Q a w:=by
 intro c
 induction c with
 |skip=>
  intro _ st e st' a w own β Q R hN h hf
  simp only[ev,Option.some.injEq,Prod.mk.injEq] at h
  obtain⟨rfl,rfl⟩:=h
  exact wp_skip (hf _ _ _ _ R (Ext.refl _ _) (fun _ _ _ h=>h) hN)
 |label l=>
  intro _ st e st' a w own β Q R hN h hf
  simp only[ev,Option.some.injEq,Prod.mk.injEq] at h
  obtain⟨rfl,rfl⟩:=h
  exact wp_label (hf _ _ _ _ R (Ext.refl _ _) (fun _ _ _ h=>h) hN)
 |exit id=>
  intro _ st e st' a w own β Q R hN h hf
  simp only[ev,Option.some.injEq,Prod.mk.injEq] at h
  obtain⟨rfl,rfl⟩:=h
  exact wp_exit (hf _ _ _ _ R (Ext.refl _ _) (fun _ _ _ h=>h) hN)
 |ret=>
  intro _ st e st' a w own β Q R hN h hf
  simp only[ev,Option.some.injEq,Prod.mk.injEq] at h
  obtain⟨rfl,rfl⟩:=h
  exact wp_ret (hf _ _ _ _ R (Ext.refl _ _) (fun _ _ _ h=>h) hN)
 |region id ops draw=>
  intro hok st e st' a w own β Q R hN h hf
  simp only[ev] at h
  simp only[okC,Bool.and_eq_true,List.all_eq_true,Bool.or_eq_true,Bool.not_eq_true'] at hok
  obtain⟨hok,hdraw⟩:=hok
  cases draw with
  |true=>
   simp only at h
   split at h
   ·rename_i s1 h1
    simp only[Option.some.injEq,Prod.mk.injEq] at h
    obtain⟨rfl,rfl⟩:=h
    rcases hdraw with h2|h2
    ·cases h2
    ·exact region_sound T K M h2 hok R hN h1 (fun a' w' own' β' R' E' hb' hN' =>hf _ _ _ _ (R'.close _) E' hb' hN')
   ·cases h
  |false=>
   simp only at h
   split at h
   ·rename_i s1 h1
    simp only[Option.some.injEq,Prod.mk.injEq] at h
    obtain⟨rfl,rfl⟩:=h
    exact wp_region (evOps_sound T K (range_ops ops) hok hN R h1 (fun a' w' own' β' R' E' hb' hN' =>hf _ _ _ _ (R'.close _) E' hb' hN'))
   ·cases h
 |seq x y ihx ihy=>
  intro hok st e st' a w own β Q R hN h hf
  simp only[okC,Bool.and_eq_true] at hok
  simp only[ev] at h
  refine wp_seq ?_
  split at h
  ·rename_i s1 h1
   refine ihx hok.1 R hN h1 (fun a1 w1 own1 β1 R1 E1 hb1 hN1=> ?_)
   refine ihy hok.2 R1 hN1 h (fun a2 w2 own2 β2 R2 E2 hb2 hN2=> ?_)
   refine hf _ _ _ _ R2 (E1.trans E2) (fun i hi b hb=> ?_) hN2
   have h3:=hb1 i hi b hb
   refine hb2 i ?_ b h3
   rcases Nat.lt_or_ge i s1.blocks.length with h5|h5
   ·exact h5
   ·rw[R1.fresh i h5] at h3;cases h3
  ·rename_i hne
   refine ihx hok.1 R hN h (fun a1 w1 own1 β1 R1 E1 hb1 hN1=> ?_)
   have:=hf _ _ _ _ R1 E1 hb1 hN1
   cases e with
   |normal=>exact absurd h (hne st')
   |exit id=>exact this
   |ret=>exact this
 |cond c x y ihx ihy=>
  intro hok st e st' a w own β Q R hN h hf
  simp only[okC,Bool.and_eq_true] at hok
  simp only[ev] at h
  split at h
  ·rename_i b hb
   have hv:=inv_bool (evO_sound R hb)
   cases b with
   |true=>exact wp_cond_true hv (ihx hok.1 R hN h hf)
   |false=>exact wp_cond_false hv (ihy hok.2 R hN h hf)
  ·cases h
 |block id c ih=>
  intro hok st e st' a w own β Q R hN h hf
  simp only[okC] at hok
  simp only[ev] at h
  refine wp_block ?_
  split at h
  ·rename_i j s1 h1
   refine ih hok R hN h1 (fun a1 w1 own1 β1 R1 E1 hb1 hN1=> ?_)
   simp only[Ex.exit',Exit.inBlock]
   split at h
   ·rename_i hj
    simp only[Option.some.injEq,Prod.mk.injEq] at h
    obtain⟨rfl,rfl⟩:=h
    rw[if_pos (Nat.eq_of_beq_eq_true hj)]
    exact hf _ _ _ _ R1 E1 hb1 hN1
   ·rename_i hj
    simp only[Option.some.injEq,Prod.mk.injEq] at h
    obtain⟨rfl,rfl⟩:=h
    rw[if_neg (Nat.ne_of_beq_eq_false hj)]
    exact hf _ _ _ _ R1 E1 hb1 hN1
  ·rename_i hne
   refine ih hok R hN h (fun a1 w1 own1 β1 R1 E1 hb1 hN1=> ?_)
   have:=hf _ _ _ _ R1 E1 hb1 hN1
   cases e with
   |normal=>exact this
   |exit id=>exact absurd h (hne _ _)
   |ret=>exact this
 |loop c ih=>
  intro hok st e st' a w own β Q R hN h hf
  simp only[okC] at hok
  simp only[ev] at h
  exact wp_loop_rounds fuel (iter_sound (fun R hN h hf=>ih hok R hN h hf) hf R hN (Ext.refl _ _) (fun _ _ _ h=>h) h)
 |scope c ih=>
  intro hok st e st' a w own β Q R hN h hf
  simp only[okC] at hok
  simp only[ev] at h
  refine wp_scope_straight (ih hok R hN h (fun a1 w1 own1 β1 R1 E1 hb1 hN1=> ?_))
  have:=hf _ _ _ _ R1 E1 hb1 hN1
  cases e with
  |normal=>exact this
  |exit id=>exact this
  |ret=>exact this
 |goto l=>intro _ st e st' a w own β Q R hN h hf;simp[ev] at h
 |refuse s=>intro _ st e st' a w own β Q R hN h hf;simp[ev] at h
 |rangeFunc f ps x y _ _=>intro _ st e st' a w own β Q R hN h hf;simp[ev] at h
section
variable {st st' : St} {a : Act} {w : World} {own : Own} {β : Nat → Option Nat}
def Res (P:Program) (a:Act) (w:World):List ResultVar→List Value→Prop
 |[],[]=>True
 | .tmp t::rs,v::vs=>v=a.tmps.getD t undef∧Res P a w rs vs
 | .cell b t::rs,v::vs=>(do loadVar t (←asAddr (a.tmps.getD b undef)):Sem Value).run P w= .ok v w∧Res P a w rs vs
 |_,_=>False
theorem resV_sound (T:TOk P C.tt): ∀ {rs:List ResultVar} {st st' :St} {own:Own} {vs:List V},Rel C st a w own β→resV C st rs=some (vs,st')→
  ∃own' us,Rel C st' a w own' β∧Ext w own w own' ∧st'.tmps=st.tmps∧Res P a w rs us∧us.length=vs.length∧
   (∀(j:Nat) (x:V),vs[j]? =some x→RepV w own' β (us.getD j undef) x)∧
   ∀(j t:Nat) (x:V),rs[j]? =some (.tmp t)→vs[j]? =some x→us.getD j undef=a.tmps.getD t undef∧ ∀y,look t st.tmps=some (.d y)→x= .d y
 |[],st,st',own,vs,R,h=>by
  simp only[resV,Option.some.injEq,Prod.mk.injEq] at h
  obtain⟨rfl,rfl⟩:=h
  exact⟨own,[],R,Ext.refl w own,rfl,trivial,rfl,fun j x h=>by simp at h,fun j t x h=>by simp at h⟩
 |r::rs,st,st',own,vs,R,h=>by
  simp only[resV] at h
  split at h
  ·rename_i v hv
   split at h
   ·rename_i y s1 hy
    split at h
    ·rename_i ys s2 hys
     cases h
     have hu: ∃u,RepV w own β u v∧(∀us,Res P a w rs us→Res P a w (r::rs) (u::us))∧(∀t,r= .tmp t→u=a.tmps.getD t undef∧look t st.tmps=some v):=by
      cases r with
      |tmp t=>exact⟨_,R.tmps t v hv,fun us h=>⟨rfl,h⟩,fun t' e=>by cases e;exact⟨rfl,hv⟩⟩
      |cell b t=>
       simp only at hv
       split at hv
       ·rename_i p hp
        obtain⟨ad,u,h1,h2,h3⟩:=load_rep (P:=P) T R hv (R.tmps b p hp)
        exact⟨u,h3,fun us h=>⟨by simp[h1,asAddr,h2],h⟩,fun t' e=>by cases e⟩
       ·cases hv
     obtain⟨u,hu1,hu2,hu3⟩:=hu
     obtain⟨own1,R1,E1,r1,t1,l1⟩:=argV_sound R hy hu1
     obtain⟨own2,us,R2,E2,t2,hres,hl,r2,k2⟩:=resV_sound T R1 hys
     refine⟨own2,u::us,R2,E1.trans E2,t2.trans t1,hu2 us hres,by simp[hl],fun j x h=> ?_,fun j t x hj h=> ?_⟩
     ·cases j with
      |zero=>simp at h;subst h;exact r1.mono E2.sub E2.wide (fun _ _ h=>h)
      |succ j=>simpa using r2 j x (by simpa using h)
     ·cases j with
      |zero=>
       simp at hj h
       subst hj h
       obtain⟨g1,g2⟩:=hu3 t rfl
       refine⟨by simpa using g1,fun z hz=> ?_⟩
       rw[g2] at hz;cases hz
       simp[argV,asD] at hy
       exact hy.1.symm
      |succ j=>
       have:=k2 j t x (by simpa using hj) (by simpa using h)
       rw[t1] at this
       simpa using this
    ·cases h
   ·cases h
  ·cases h
def resF (a:Act):ResultVar→Sem Value
 | .tmp t=>pure (a.tmps.getD t undef)
 | .cell b t=>do loadVar t (←asAddr (a.tmps.getD b undef))
theorem Res.run: ∀ {rs:List ResultVar} {us:List Value},Res P a w rs us→(rs.mapM (resF a)).run P w= .ok us w
 |[],[],_=>rfl
 | .tmp t::rs,v::vs,h=>by
  obtain⟨h1,h2⟩:=h
  have ih:=Res.run h2
  simp only[List.mapM_cons,Sem.run_bind,resF,Sem.run_pure,Result.andThen_ok,ih,h1]
 | .cell b t::rs,v::vs,h=>by
  obtain⟨h1,h2⟩:=h
  have ih:=Res.run h2
  have h1' :(resF a (.cell b t)).run P w= .ok v w:=h1
  rw[List.mapM_cons,Sem.run_bind,h1']
  simp only[Result.andThen_ok,Sem.run_bind,ih,Sem.run_pure]
 |[],_::_,h=>h.elim
 | .tmp _::_,[],h=>h.elim
 | .cell _ _::_,[],h=>h.elim
theorem mapM_resF {rs:List ResultVar} {us:List Value} {f:ResultVar→Sem Value} (hf: ∀x,f x=resF a x) (h:Res P a w rs us):(rs.toArray.mapM f).run P w= .ok us.toArray w:=by
 have:f=resF a:=funext hf
 subst this
 rw[List.mapM_toArray,map_eq_pure_bind,Sem.run_bind,h.run]
 rfl
theorem Res.results {fn:Func} {rs:List ResultVar} {us:List Value} (hr:fn.results.toList=rs) (h:Res P a w rs us):
  (results fn a.tmps).run P w= .ok (if us.toArray.size=1 then us.toArray.getD 0 undef else .tuple us.toArray) w:=by
 have e:fn.results=rs.toArray:=by rw[←hr]
 unfold Go.results
 rw[e,Sem.run_bind,mapM_resF (fun x=>by cases x<;>rfl) h]
 simp only[Result.andThen_ok,Sem.run_pure]
 congr 1
 split
 ·rename_i h1
  have h2:0<us.toArray.size:=by omega
  simp only[Array.getD,h2,dite_true]
  rfl
 ·rfl
def findJ (p:Pl):List (Nat×Pl)→Option Nat
 |[]=>none
 |(j,q)::l=>match Pl.beq p q with
  |true=>some j
  |false=>findJ p l
theorem mem_dropJ {t j:Nat} {p:Pl}: ∀ {l:List (Nat×Pl)},(j,p)∈resO.dropJ t l↔(j,p)∈l∧p≠ .t t
 |[]=>by simp[resO.dropJ]
 |(k,q)::l=>by
  simp only[resO.dropJ]
  cases h:Pl.beq q (.t t) with
  |true=>
   have:=Pl.beq_iff.1 h
   subst this
   simp only[mem_dropJ (l:=l),List.mem_cons,Prod.mk.injEq]
   constructor
   ·rintro ⟨h1,h2⟩;exact⟨.inr h1,h2⟩
   ·rintro ⟨⟨h1,h2⟩|h1,h3⟩
    ·exact absurd h2 h3
    ·exact⟨h1,h3⟩
  |false=>
   have hne:q≠ .t t:=fun e=>by rw[Pl.beq_iff.2 e] at h;cases h
   simp only[mem_dropJ (l:=l),List.mem_cons,Prod.mk.injEq]
   constructor
   ·rintro (⟨h1,h2⟩|⟨h1,h2⟩)
    ·exact⟨.inl ⟨h1,h2⟩,by rw[h2];exact hne⟩
    ·exact⟨.inr h1,h2⟩
   ·rintro ⟨h1|h1,h2⟩
    ·exact .inl h1
    ·exact .inr ⟨h1,h2⟩
theorem findJ_dropJ {t s:Nat} (h:s≠t): ∀ {l:List (Nat×Pl)},findJ (.t s) (resO.dropJ t l)=findJ (.t s) l
 |[]=>rfl
 |(k,q)::l=>by
  simp only[resO.dropJ]
  cases e:Pl.beq q (.t t) with
  |true=>
   have:=Pl.beq_iff.1 e
   subst this
   simp only[findJ,Pl.beq,nbeq_false h]
   exact findJ_dropJ h
  |false=>simp only[findJ,findJ_dropJ h]
theorem resO_sound {st:St}: ∀ {rs:List ResultVar} {j0 j:Nat} {p:Pl},(j,p)∈resO st rs j0→
  ∃i t,j=j0+i∧rs[i]? =some (.tmp t)∧
   ((p= .t t∧hasPl (.t t) st.owns=true∧(∃y,look t st.tmps=some (.d y))∧findJ p (resO st rs j0)=some j)∨ ∃b off len sz,look t st.tmps=some (.mu b off len len sz))
 |[],j0,j,p,h=>by simp[resO] at h
 | .cell b t::rs,j0,j,p,h=>by
  simp only[resO] at h⊢
  obtain⟨i,t',h1,h2,h3⟩:=resO_sound h
  exact⟨i+1,t',by omega,by simpa using h2,h3⟩
 | .tmp t::rs,j0,j,p,h=>by
  have old:(j,p)∈resO st rs (j0+1)→ ∀l,(∀s,p= .t s→findJ p (resO st rs (j0+1))=some j→findJ p l=some j)→ ∃i t',j=j0+i∧(.tmp t::rs)[i]? =some (.tmp t')∧
    ((p= .t t' ∧hasPl (.t t') st.owns=true∧(∃y,look t' st.tmps=some (.d y))∧findJ p l=some j)∨ ∃b off len sz,look t' st.tmps=some (.mu b off len len sz)):=by
   intro hm l hl
   obtain⟨i,t',h1,h2,h3⟩:=resO_sound hm
   refine⟨i+1,t',by omega,by simpa using h2, ?_⟩
   rcases h3 with⟨g1,g2,g3,g4⟩|h3
   ·exact .inl ⟨g1,g2,g3,hl _ g1 g4⟩
   ·exact .inr h3
  have own: ∀y,look t st.tmps=some (.d y)→resO st (.tmp t::rs) j0=(match hasPl (.t t) st.owns with|true=>(j0,Pl.t t)::resO.dropJ t (resO st rs (j0+1))|false=>resO st rs (j0+1))→
    ∃i t',j=j0+i∧(.tmp t::rs)[i]? =some (.tmp t')∧
    ((p= .t t' ∧hasPl (.t t') st.owns=true∧(∃y,look t' st.tmps=some (.d y))∧findJ p (resO st (.tmp t::rs) j0)=some j)∨ ∃b off len sz,look t' st.tmps=some (.mu b off len len sz)):=by
   intro y hy e
   rw[e] at h⊢
   cases hp:hasPl (.t t) st.owns with
   |false=>rw[hp] at h;exact old h _ (fun _ _ h=>h)
   |true=>
    rw[hp] at h
    simp only[List.mem_cons,Prod.mk.injEq] at h
    rcases h with⟨rfl,rfl⟩|h
    ·exact⟨0,t,rfl,rfl,.inl ⟨rfl,hp,⟨y,hy⟩,by simp[findJ,show Pl.beq (.t t) (.t t)=true from Pl.beq_iff.2 rfl]⟩⟩
    ·obtain⟨h1,h2⟩:=mem_dropJ.1 h
     refine old h1 _ (fun s hs hf=> ?_)
     subst hs
     have hst:s≠t:=fun e=>h2 (by rw[e])
     simp only[findJ,Pl.beq,nbeq_false hst]
     rw[findJ_dropJ hst]
     exact hf
  cases hl:look t st.tmps with
  |none=>simp only[resO,hl] at h⊢;exact old h _ (fun _ _ h=>h)
  |some x=>
   cases x with
   |d y=>
    cases y with
    |nums k n xs=>exact own _ hl (by simp only[resO,hl];cases hasPl (.t t) st.owns<;>rfl)
    |sl s n xs=>exact own _ hl (by simp only[resO,hl];cases hasPl (.t t) st.owns<;>rfl)
    |_=>simp only[resO,hl] at h⊢;exact old h _ (fun _ _ h=>h)
   |mu b off len cap sz=>
    simp only[resO,hl] at h⊢
    cases e:Nat.beq len cap with
    |false=>rw[e] at h;exact old h _ (fun _ _ h=>h)
    |true=>
     rw[e] at h
     simp only[List.mem_cons,Prod.mk.injEq] at h
     rcases h with⟨rfl,rfl⟩|h
     ·have:=Nat.eq_of_beq_eq_true e
      subst this
      exact⟨0,t,rfl,rfl,.inr ⟨b,off,len,sz,hl⟩⟩
     ·refine old h _ (fun s hs hf=> ?_)
      subst hs
      simp only[findJ,Pl.beq]
      exact hf
   |_=>simp only[resO,hl] at h⊢;exact old h _ (fun _ _ h=>h)
def retOwn (os:List (Nat×Pl)) (own:Own):Own:=fun b=>match own b with
 |some (.far,n)=>some (.far,n)
 |some (.pl p,n)=>match findJ p os with
  |some j=>some (.pl (.c 0 j),n)
  |none=>none
 |_=>none
theorem retOwn_or (os:List (Nat×Pl)) (own:Own) (b:Nat):retOwn os own b=none∨ ∃ow ow' n,own b=some (ow,n)∧retOwn os own b=some (ow',n):=by
 unfold retOwn
 split
 ·rename_i n h;exact .inr ⟨_,_,_,h,rfl⟩
 ·rename_i p n h
  split
  ·exact .inr ⟨_,_,_,h,rfl⟩
  ·exact .inl rfl
 ·exact .inl rfl
theorem ext_ret (os:List (Nat×Pl)) (w:World) (own:Own):Ext w own w (retOwn os own) where
 os:=rfl
 tape:=rfl
 output:=rfl
 size:=Nat.le_refl _
 free b _ h:=⟨rfl,by simp[retOwn,h]⟩
 part b ow m _ h:=⟨fun _ _=>rfl,fun ow' n' h' =>by
  rcases retOwn_or os own b with h1|⟨_,_,n,h1,h2⟩
  ·rw[h1] at h';cases h'
  ·rw[h1] at h;cases h;rw[h2] at h';cases h';exact Nat.le_refl _⟩
 wide:=Wide.refl w
 far b m h:=⟨rfl,by simp[retOwn,h]⟩
theorem finish_sound (T:TOk P C.tt) (R:Rel C st a w own β) {fn:Func} {rs:List ResultVar} (hr:fn.results.toList=rs) {e:Ex} {r:Ret} (h:finish C rs (some (e,st))=some r):
  (e= .normal∨e= .ret)∧ ∃v own',(results fn a.tmps).run P w= .ok v w∧Back w own w own' v r:=by
 have main:(match resV C st rs with
   |some (vs,st)=>match refsL vs with
    |[]=>some {vals:=vs,own:=(resO st rs 0).map (·.1) }
    |_=>none
   |none=>(none:Option Ret))=some r→ ∃v own',(results fn a.tmps).run P w= .ok v w∧Back w own w own' v r:=by
  intro h
  split at h
  ·rename_i vs s1 hvs
   split at h
   ·rename_i href
    cases h
    obtain⟨own1,us,R1,E1,t1,hres,hl,hrep,hk⟩:=resV_sound T R hvs
    have E2:=ext_ret (resO s1 rs 0) w own1
    refine⟨_,retOwn (resO s1 rs 0) own1,hres.results hr,⟨E1.trans E2, ?_,us.toArray,⟨by simpa using hl,fun j x hx=> ?_⟩,rfl, ?_⟩⟩
    ·intro b s h
     rcases retOwn_or (resO s1 rs 0) own1 b with h1|⟨_,_,n,h1,h2⟩
     ·rw[h1] at h;cases h
     ·exact R1.plain b _ h1
    ·have:=((hrep j x hx).mono E2.sub E2.wide (fun _ _ h=>h)).noref (refsL_mem href j x hx) (fun _=>none)
     rw[←getD_toList]
     simpa using this
    ·intro j hj x hx
     rw[List.mem_map] at hj
     obtain⟨⟨j',p⟩,hm,rfl⟩:=hj
     obtain⟨i,t,hi,hrt,hcase⟩:=resO_sound hm
     simp only[Nat.zero_add] at hi
     simp only at hx
     subst hi
     obtain⟨k1,k2⟩:=hk j' t x hrt hx
     have e1:us.toArray.getD j' undef=a.tmps.getD t undef:=by rw[←k1,←getD_toList]
     rw[e1]
     rcases hcase with⟨rfl,g2,⟨y,g3⟩,g4⟩|⟨b,off,len,sz,g1⟩
     ·rw[t1] at g3
      have ex:=k2 y g3
      subst ex
      have ho:=R1.owns (.t t) g2 (.d y) (a.tmps.getD t undef) ⟨by rw[t1];exact g3,rfl⟩
      intro sz hsz
      rcases ho sz hsz with h0|⟨b,o,len,cap,q1,q2⟩
      ·exact .inl h0
      ·refine .inr ⟨b,o,len,cap,q1, ?_⟩
       rcases q2 with q2|⟨q2,q3,q4⟩
       ·exact .inl q2
       ·exact .inr ⟨q2,by simp[retOwn,q3,g4],q4⟩
     ·have hv:=R1.tmps t _ g1
      intro sz' _
      generalize a.tmps.getD t undef=u at hv
      cases hv with
      |mu _ _ _ _ _ bb ad hβ hs hc hm ha hb=>
       refine .inr ⟨ad.block,ad.off,len,len, ?_,.inl rfl⟩
       obtain⟨b1,b2,b3⟩:=ad
       simp only at hs
       subst hs
       rfl
   ·cases h
  ·cases h
 cases e with
 |normal=>exact⟨.inl rfl,main h⟩
 |ret=>exact⟨.inr rfl,main h⟩
 |exit id=>simp[finish] at h
end
theorem run_sound (T:TOk P C.tt) (K:CallsOk P C) (M:P.follows .mixedOrders=true) {f:FuncId} {fn:Func} {c:Code} {fuel:Nat} {args:List V} {r:Ret} (hf:P.funcs[f]? =some fn) (hb:fn.body=some c)
  (hname:(fn.name== "runtime.NumGoroutine")=false) (hok:okC C.live fn.ntmps c=true) (hlen:args.length≤fn.ntmps)
  (h:run C fuel fn.results.toList c args=some r):SoundB P C.glob f args r:=by
 refine⟨⟨fn,hf,hname,by rw[hb];rfl⟩,fun cargs w own G hg hp hfar=> ?_⟩
 refine calls_of_wp hf hb ?_
 unfold run at h
 cases hev:ev C fuel c {tmps:=argsT 0 args,blocks:=[],owns:=[] } with
 |none=>rw[hev] at h;simp[finish] at h
 |some es=>
  obtain⟨e,s1⟩:=es
  rw[hev] at h
  have R:Rel C {tmps:=argsT 0 args,blocks:=[],owns:=[] } {tmps:=cargs++Array.replicate (fn.ntmps-cargs.size) undef,defers:=[] } w own (fun _=>none):=by
   refine⟨rfl,fun t x hx=> ?_,fun i B h=>by simp[getB] at h,fun _ _=>rfl,fun i hi=>by simp at hi,fun p hp=>by simp[hasPl] at hp,fun i j hp=>by simp[hasPl] at hp,hp,hg⟩
   obtain⟨_,h1⟩:=look_argsT hx
   simp only[Nat.sub_zero] at h1
   have hlt:=(List.getElem?_eq_some_iff.1 h1).1
   rw[←G.size] at hlt
   have:=G.rep t x h1
   rw[getD_append,if_pos hlt]
   exact this
  refine ev_sound T K M hok R ?_ hev (fun a' w' own' β' R' E' hb' hN' => ?_)
  ·simp[G.size];omega
  ·obtain⟨he,v,own2,hres,B⟩:=finish_sound (P:=P) T R' rfl h
   have BB:Back w own w' own2 v r:=⟨E'.trans B.ext,B.plain,B.vals⟩
   rcases he with rfl|rfl
   ·exact⟨R'.defers,v,hres,v,own2,rfl,BB⟩
   ·exact⟨R'.defers,v,hres,v,own2,rfl,BB⟩
end Go.VM
set_option linter.unusedSimpArgs false
set_option linter.unusedVariables false
namespace Go.VM
open Go
variable {P : Program} {C : Ctx} {st st' : St} {a : Act} {w : World} {own : Own} {β : Nat → Option Nat}
theorem Rel.ctxG (R:Rel C st a w own β) {C' :Ctx} (h:C'.glob=C.glob):Rel C' st a w own β:=
 ⟨R.defers,R.tmps,R.blocks,R.fresh,R.gone,R.owns,R.ob,R.plain,fun g cs hg=>R.glob g cs (by rw[←h];exact hg)⟩
theorem resP1_sound (R:Rel C st a w own β) {k:Nat} {v x:V} (h:resP1 C k st v=some (x,st')) {u:Value} (hu:RepV w own β u v):
  ∃own',Rel C st' a w own' β∧Ext w own w own' ∧RepV w own' β u x∧st'.tmps=st.tmps∧st'.blocks.length=st.blocks.length∧ ∀y,v= .d y→x= .d y:=by
 have same:(v,st)=(x,st')→ ∃own',Rel C st' a w own' β∧Ext w own w own' ∧RepV w own' β u x∧st'.tmps=st.tmps∧st'.blocks.length=st.blocks.length∧ ∀y,v= .d y→x= .d y:=by
  intro e;cases e;exact⟨own,R,Ext.refl w own,hu,rfl,rfl,fun y h=>h⟩
 have old:argV C st v=some (x,st')→ ∃own',Rel C st' a w own' β∧Ext w own w own' ∧RepV w own' β u x∧st'.tmps=st.tmps∧st'.blocks.length=st.blocks.length∧ ∀y,v= .d y→x= .d y:=by
  intro e
  obtain⟨own',h1,h2,h3,h4,h5⟩:=argV_sound R e hu
  refine⟨own',h1,h2,h3,h4,h5,fun y hy=> ?_⟩
  subst hy
  simp[argV,asD] at e
  exact e.1.symm
 cases v with
 |ptr i o=>exact same (Option.some.inj h)
 |agg cs=>exact same (Option.some.inj h)
 |mu i o l c s=>
  simp only[resP1] at h
  split at h
  ·exact same (Option.some.inj h)
  ·exact old h
 |fn f cs=>exact old h
 |any=>exact old h
 |skip=>exact old h
 |d x=>exact old h
 |gp g o=>exact old h
 |tup vs=>exact old h
theorem resVP_sound (T:TOk P C.tt) {k:Nat}: ∀ {rs:List ResultVar} {st st' :St} {own:Own} {vs:List V},Rel C st a w own β→resVP C k st rs=some (vs,st')→
  ∃own' us,Rel C st' a w own' β∧Ext w own w own' ∧st'.tmps=st.tmps∧st'.blocks.length=st.blocks.length∧Res P a w rs us∧us.length=vs.length∧
   (∀(j:Nat) (x:V),vs[j]? =some x→RepV w own' β (us.getD j undef) x)∧
   ∀(j t:Nat) (x:V),rs[j]? =some (.tmp t)→vs[j]? =some x→us.getD j undef=a.tmps.getD t undef∧ ∀y,look t st.tmps=some (.d y)→x= .d y
 |[],st,st',own,vs,R,h=>by
  simp only[resVP,Option.some.injEq,Prod.mk.injEq] at h
  obtain⟨rfl,rfl⟩:=h
  exact⟨own,[],R,Ext.refl w own,rfl,rfl,trivial,rfl,fun j x h=>by simp at h,fun j t x h=>by simp at h⟩
 |r::rs,st,st',own,vs,R,h=>by
  simp only[resVP] at h
  split at h
  ·rename_i v hv
   split at h
   ·rename_i y s1 hy
    split at h
    ·rename_i ys s2 hys
     cases h
     have hu: ∃u,RepV w own β u v∧(∀us,Res P a w rs us→Res P a w (r::rs) (u::us))∧(∀t,r= .tmp t→u=a.tmps.getD t undef∧look t st.tmps=some v):=by
      cases r with
      |tmp t=>exact⟨_,R.tmps t v hv,fun us h=>⟨rfl,h⟩,fun t' e=>by cases e;exact⟨rfl,hv⟩⟩
      |cell b t=>
       simp only at hv
       split at hv
       ·rename_i p hp
        obtain⟨ad,u,h1,h2,h3⟩:=load_rep (P:=P) T R hv (R.tmps b p hp)
        exact⟨u,h3,fun us h=>⟨by simp[h1,asAddr,h2],h⟩,fun t' e=>by cases e⟩
       ·cases hv
     obtain⟨u,hu1,hu2,hu3⟩:=hu
     obtain⟨own1,R1,E1,r1,t1,l1,d1⟩:=resP1_sound R hy hu1
     obtain⟨own2,us,R2,E2,t2,l2,hres,hl,r2,k2⟩:=resVP_sound T R1 hys
     refine⟨own2,u::us,R2,E1.trans E2,t2.trans t1,l2.trans l1,hu2 us hres,by simp[hl],fun j x h=> ?_,fun j t x hj h=> ?_⟩
     ·cases j with
      |zero=>simp at h;subst h;exact r1.mono E2.sub E2.wide (fun _ _ h=>h)
      |succ j=>simpa using r2 j x (by simpa using h)
     ·cases j with
      |zero=>
       simp at hj h
       subst hj h
       obtain⟨g1,g2⟩:=hu3 t rfl
       refine⟨by simpa using g1,fun z hz=> ?_⟩
       rw[g2] at hz;cases hz
       exact d1 z rfl
      |succ j=>
       have:=k2 j t x (by simpa using hj) (by simpa using h)
       rw[t1] at this
       simpa using this
    ·cases h
   ·cases h
  ·cases h
def zRet (os:List (Nat×Pl)):Ow→Option Ow
 | .far=>some .far
 | .pl p=>match findJ p os with
  |some j=>some (.pl (.c 0 j))
  |none=>none
 | .bl _=>none
theorem rangeIs_at: ∀ {k i:Nat} {l:List Nat},rangeIs i k l=true→ ∀j,j<k→l[j]? =some (i+j)
 |0,i,l,_,j,hj=>by omega
 |k+1,i,[],h,j,hj=>by cases h
 |k+1,i,x::l,h,j,hj=>by
  simp only[rangeIs] at h
  cases e:Nat.beq i x with
  |false=>rw[e] at h;cases h
  |true=>
   rw[e] at h
   have:=Nat.eq_of_beq_eq_true e
   subst this
   cases j with
   |zero=>rfl
   |succ j=>have:=rangeIs_at (k:=k) (i:=i+1) h j (by omega);simp only[List.getElem?_cons_succ,this];congr 1;omega
theorem mask_ret {ρ:Nat→Option Nat} {os:List (Nat×Pl)} {b n t j:Nat} (h:own b=some (.pl (.t t),n)) (hf:findJ (.t t) os=some j):maskOwn ρ β (zRet os) own b=some (.pl (.c 0 j),n):=by
 simp[maskOwn,h,zRet,hf]
theorem finishP_sound (T:TOk P C.tt) (R:Rel C st a w own β) {fn:Func} {rs:List ResultVar} (hr:fn.results.toList=rs) {k:Nat} {e:Ex} {hh:Hand} (h:finishP C k rs (some (e,st))=some hh):
  (e= .normal∨e= .ret)∧ ∃v own' β',(results fn a.tmps).run P w= .ok v w∧Ext w own w own' ∧(∀j,j<k→ ∀b,β j=some b→β' j=some b)∧
   ∃vs:Array Value,vs.size=hh.vals.length∧v=(if vs.size=1 then vs.getD 0 undef else .tuple vs)∧
    Rel C {tmps:=argsT 0 hh.vals,blocks:=hh.blocks,owns:=hh.bown} {tmps:=vs,defers:=[] } w own' β' ∧
    ∀j∈hh.own,∀x,hh.vals[j]? =some x→OwnsAt w own' (.c 0 j) (vs.getD j undef) x:=by
 have main:(match resVP C k st rs with
   |some (vs,st)=>finishOn (reach st.blocks st.blocks (upTo 0 k++newOf (upTo 0 k) (refsL vs)) (upTo 0 k++newOf (upTo 0 k) (refsL vs))) k st rs vs
   |none=>(none:Option Hand))=some hh→ ∃v own' β',(results fn a.tmps).run P w= .ok v w∧Ext w own w own' ∧(∀j,j<k→ ∀b,β j=some b→β' j=some b)∧
   ∃vs:Array Value,vs.size=hh.vals.length∧v=(if vs.size=1 then vs.getD 0 undef else .tuple vs)∧
    Rel C {tmps:=argsT 0 hh.vals,blocks:=hh.blocks,owns:=hh.bown} {tmps:=vs,defers:=[] } w own' β' ∧
    ∀j∈hh.own,∀x,hh.vals[j]? =some x→OwnsAt w own' (.c 0 j) (vs.getD j undef) x:=by
  intro h
  split at h
  ·rename_i vs s1 hvs
   generalize reach s1.blocks s1.blocks (upTo 0 k++newOf (upTo 0 k) (refsL vs)) (upTo 0 k++newOf (upTo 0 k) (refsL vs))=idx at h
   unfold finishOn at h
   split at h
   ·rename_i us bs hus hbs hck
    cases h
    have hnd:nodupB idx=true:=by
     cases e:nodupB idx with
     |true=>rfl
     |false=>rw[e] at hck;cases hck
    have hrange:rangeIs 0 k idx=true:=by rw[hnd] at hck;exact hck
    obtain⟨own1,ws,R1,E1,t1,l1,hres,hl,hrep,hk⟩:=resVP_sound T R hvs
    have hz:zRet (resO s1 rs 0) .far=some .far:=rfl
    have E2:=ext_mask (own:=own1) (β:=β) (ρ:=idxOf idx) w hz
    have hβ0: ∀i k,idxOf idx i=some k→ ∀b,β i=some b→turnβ idx β k=some b:=fun i k h b hb=>by rw[turnβ_at (idxOf_at h),hb]
    have hval: ∀(j:Nat) (x:V),us[j]? =some x→RepV w (maskOwn (idxOf idx) β (zRet (resO s1 rs 0)) own1) (turnβ idx β) (ws.toArray.getD j undef) x:=by
     intro j x hx
     obtain⟨y,h2,h3⟩:=(renL_some hus).2 j x hx
     have:=(hrep j y h2).ren (sub_mask (own:=own1) (ρ:=idxOf idx) (β:=β) (z:=zRet (resO s1 rs 0)) w) (Wide.refl w) hβ0 h3
     rw[←getD_toList]
     simpa using this
    have RT:=R1.turn (z:=zRet (resO s1 rs 0)) hnd hbs (tmps:=argsT 0 us) (vals:=ws.toArray) (fun t x hx=>by
     obtain⟨_,h1⟩:=look_argsT hx
     exact hval t x (by simpa using h1))
    refine⟨_,_,_,hres.results hr,E1.trans E2,fun j hj b hb=> ?_,ws.toArray, ?_,rfl,RT, ?_⟩
    ·have:=rangeIs_at hrange j hj
     rw[Nat.zero_add] at this
     rw[turnβ_at this];exact hb
    ·simp[hl,(renL_some hus).1]
    ·intro j hj x hx
     rw[List.mem_map] at hj
     obtain⟨⟨j',p⟩,hm,rfl⟩:=hj
     obtain⟨i,t,hi,hrt,hcase⟩:=resO_sound hm
     simp only[Nat.zero_add] at hi
     simp only at hx
     subst hi
     obtain⟨y,h2,h3⟩:=(renL_some hus).2 j' x hx
     obtain⟨k1,k2⟩:=hk j' t y hrt h2
     have e1:ws.toArray.getD j' undef=a.tmps.getD t undef:=by rw[←k1,←getD_toList]
     rw[e1]
     rcases hcase with⟨rfl,g2,⟨z,g3⟩,g4⟩|⟨b,off,len,sz,g1⟩
     ·rw[t1] at g3
      have ex:=k2 z g3
      subst ex
      have ho:=R1.owns (.t t) g2 (.d z) (a.tmps.getD t undef) ⟨by rw[t1];exact g3,rfl⟩
      intro sz hsz
      rcases ho sz (by rw[←szOf_ren h3];exact hsz) with h0|⟨b,o,len,cap,q1,q2⟩
      ·exact .inl h0
      ·refine .inr ⟨b,o,len,cap,q1, ?_⟩
       rcases q2 with q2|⟨q2,q3,q4⟩
       ·exact .inl q2
       ·exact .inr ⟨q2,mask_ret q3 g4,q4⟩
     ·have hv:=R1.tmps t _ g1
      intro sz' hsz'
      generalize a.tmps.getD t undef=u at hv
      cases hv with
      |mu _ _ _ _ _ bb ad hβ hs hc hm ha hb=>
       refine .inr ⟨ad.block,ad.off,len,len, ?_,.inl rfl⟩
       obtain⟨b1,b2,b3⟩:=ad
       simp only at hs
       subst hs
       rfl
   ·cases h
  ·cases h
 cases e with
 |normal=>exact⟨.inl rfl,main h⟩
 |ret=>exact⟨.inr rfl,main h⟩
 |exit id=>simp[finishP] at h
theorem runP_sound (T:TOk P C.tt) (K:CallsOk P C) (M:P.follows .mixedOrders=true) {f:FuncId} {fn:Func} {c:Code} {fuel:Nat} {args:List V} {bs:List (Option Blk)} {bo:List Pl} {hh:Hand}
  (hf:P.funcs[f]? =some fn) (hb:fn.body=some c) (hname:(fn.name== "runtime.NumGoroutine")=false) (hok:okC C.live fn.ntmps c=true) (hlen:args.length≤fn.ntmps)
  (h:runP C fuel fn.results.toList c args bs bo=some hh):SoundP P C.glob f args bs bo hh:=by
 refine⟨⟨fn,hf,hname,by rw[hb];rfl⟩,fun C0 cargs w own β hg hsz R0=> ?_⟩
 refine calls_of_wp hf hb ?_
 unfold runP at h
 cases hev:ev C fuel c {tmps:=argsT 0 args,blocks:=bs,owns:=bo} with
 |none=>rw[hev] at h;simp[finishP] at h
 |some es=>
  obtain⟨e,s1⟩:=es
  rw[hev] at h
  have R:Rel C {tmps:=argsT 0 args,blocks:=bs,owns:=bo} {tmps:=cargs++Array.replicate (fn.ntmps-cargs.size) undef,defers:=[] } w own β:=by
   have R1:=R0.ctxG (C' :=C) hg.symm
   have hl: ∀t x,look t (argsT 0 args)=some x→(cargs++Array.replicate (fn.ntmps-cargs.size) undef).getD t undef=cargs.getD t undef:=by
    intro t x hx
    obtain⟨_,h1⟩:=look_argsT hx
    simp only[Nat.sub_zero] at h1
    have hlt:=(List.getElem?_eq_some_iff.1 h1).1
    rw[←hsz] at hlt
    rw[getD_append,if_pos hlt]
   refine⟨rfl,fun t x hx=> ?_,R1.blocks,R1.fresh,R1.gone,fun p hp x v hv=> ?_,R1.ob,R1.plain,R1.glob⟩
   ·have:=R1.tmps t x hx
    simp only at hx⊢
    rw[hl t x hx];exact this
   ·refine R1.owns p hp x v ?_
    cases p with
    |t t=>obtain⟨h1,h2⟩:=hv;exact⟨h1,by rw[h2];exact hl t x h1⟩
    |c t j=>obtain⟨us,arr,h1,h2,h3,h4⟩:=hv;exact⟨us,arr,h1,h2,by rw[←h3];exact(hl t _ h1).symm,h4⟩
    |b i j=>exact hv
  refine ev_sound T K M hok R ?_ hev (fun a' w' own' β' R' E' hb' hN' => ?_)
  ·simp[hsz];omega
  ·obtain⟨he,v,own2,β2,hres,E2,hβ2,vs,v1,v2,v3,v4⟩:=finishP_sound (P:=P) T R' rfl h
   rcases he with rfl|rfl
   ·exact⟨R'.defers,v,hres,v,own2,β2,rfl,E'.trans E2,fun k hk b hb=>hβ2 k hk b (hb' k hk b hb),vs,v1,v2,v3.ctxG hg,v4⟩
   ·exact⟨R'.defers,v,hres,v,own2,β2,rfl,E'.trans E2,fun k hk b hb=>hβ2 k hk b (hb' k hk b hb),vs,v1,v2,v3.ctxG hg,v4⟩
end Go.VM
set_option linter.unusedSimpArgs false
set_option linter.unusedVariables false
namespace Go.VM
open Go
structure Env where
 tt:Nat→Option TI
 glob:Nat→Option (List D)
 lin:FuncId→List Nat
 live:FuncId→Nat→List Nat
 fns:FuncId→Option Func
 ext:FuncId→List V→Option Ret
 extP:FuncId→List V→List (Option Blk)→List Pl→Option Hand:=fun _ _ _ _=>none
 reg:FuncId→Nat→RegH:=fun _ _=>⟨none,[]⟩
def Env.ctx (E:Env) (f:FuncId) (call:FuncId→List V→Option Ret) (callP:FuncId→List V→List (Option Blk)→List Pl→Option Hand):Ctx:=
 {tt:=E.tt,glob:=E.glob,call:=call,lin:=E.lin f,live:=E.live f,callP:=callP,reg:=E.reg f}
def callB (E:Env) (fuel:Nat):Nat→(FuncId→List V→Option Ret)×(FuncId→List V→List (Option Blk)→List Pl→Option Hand)
 |0=>(fun _ _=>none,fun _ _ _ _=>none)
 |n+1=>(fun f args=>match E.ext f args with
   |some r=>some r
   |none=>match E.fns f with
    |some fn=>match fn.body with
     |some c=>match Nat.ble args.length fn.ntmps with
      |true=>run (E.ctx f (callB E fuel n).1 (callB E fuel n).2) fuel fn.results.toList c args
      |false=>none
     |none=>none
    |none=>none,
  fun f args bs bo=>match E.extP f args bs bo with
   |some r=>some r
   |none=>match E.fns f with
    |some fn=>match fn.body with
     |some c=>match Nat.ble args.length fn.ntmps with
      |true=>runP (E.ctx f (callB E fuel n).1 (callB E fuel n).2) fuel fn.results.toList c args bs bo
      |false=>none
     |none=>none
    |none=>none)
def callN (E:Env) (fuel n:Nat):FuncId→List V→Option Ret:=(callB E fuel n).1
def callP (E:Env) (fuel n:Nat):FuncId→List V→List (Option Blk)→List Pl→Option Hand:=(callB E fuel n).2
theorem callN_zero (E:Env) (fuel:Nat) (f:FuncId) (args:List V):callN E fuel 0 f args=none:=(rfl)
theorem callN_succ (E:Env) (fuel n:Nat) (f:FuncId) (args:List V):callN E fuel (n+1) f args=match E.ext f args with
   |some r=>some r
   |none=>match E.fns f with
    |some fn=>match fn.body with
     |some c=>match Nat.ble args.length fn.ntmps with
      |true=>run (E.ctx f (callN E fuel n) (callP E fuel n)) fuel fn.results.toList c args
      |false=>none
     |none=>none
    |none=>none:=(rfl)
theorem callP_zero (E:Env) (fuel:Nat) (f:FuncId) (args:List V) (bs:List (Option Blk)) (bo:List Pl):callP E fuel 0 f args bs bo=none:=(rfl)
theorem callP_succ (E:Env) (fuel n:Nat) (f:FuncId) (args:List V) (bs:List (Option Blk)) (bo:List Pl):callP E fuel (n+1) f args bs bo=match E.extP f args bs bo with
   |some r=>some r
   |none=>match E.fns f with
    |some fn=>match fn.body with
     |some c=>match Nat.ble args.length fn.ntmps with
      |true=>runP (E.ctx f (callN E fuel n) (callP E fuel n)) fuel fn.results.toList c args bs bo
      |false=>none
     |none=>none
    |none=>none:=(rfl)
def okFn (live:Nat→List Nat) (fn:Func):Bool:=
 !(fn.name== "runtime.NumGoroutine") && (match fn.body with|some c=>okC live fn.ntmps c|none=>true)
structure EnvOk (P : Program) (E : Env) : Prop where
 tt:TOk P E.tt
 fns: ∀f fn,E.fns f=some fn→P.funcs[f]? =some fn∧okFn (E.live f) fn=true
 mixed:P.follows .mixedOrders=true
 ext: ∀f args r,E.ext f args=some r→Sound P E.glob f args r
 extP: ∀f args bs bo h,E.extP f args bs bo=some h→SoundP P E.glob f args bs bo h
theorem callB_sound {P:Program} {E:Env} (O:EnvOk P E) {fuel:Nat}: ∀n:Nat,(∀f args r,callN E fuel n f args=some r→Sound P E.glob f args r)∧
  ∀f args bs bo h,callP E fuel n f args bs bo=some h→SoundP P E.glob f args bs bo h
 |0=>⟨fun f args r h=>by simp[callN_zero] at h,fun f args bs bo r h=>by simp[callP_zero] at h⟩
 |n+1=>by
  obtain⟨i1,i2⟩:=callB_sound O (fuel:=fuel) n
  refine⟨fun f args r h=> ?_,fun f args bs bo r h=> ?_⟩
  ·rw[callN_succ] at h
   split at h
   ·rename_i r' hr
    cases h
    exact O.ext f args _ hr
   ·split at h
    ·rename_i fn hfn
     split at h
     ·rename_i c hc
      split at h
      ·rename_i hl
       obtain⟨h1,h2⟩:=O.fns f fn hfn
       simp only[okFn,hc,Bool.and_eq_true,Bool.not_eq_true'] at h2
       exact .inl<|run_sound (C:=E.ctx f (callN E fuel n) (callP E fuel n)) O.tt ⟨i1,i2⟩ O.mixed h1 hc h2.1 h2.2 (Nat.le_of_ble_eq_true hl) h
      ·cases h
     ·cases h
    ·cases h
  ·rw[callP_succ] at h
   split at h
   ·rename_i r' hr
    cases h
    exact O.extP f args bs bo _ hr
   ·split at h
    ·rename_i fn hfn
     split at h
     ·rename_i c hc
      split at h
      ·rename_i hl
       obtain⟨h1,h2⟩:=O.fns f fn hfn
       simp only[okFn,hc,Bool.and_eq_true,Bool.not_eq_true'] at h2
       exact runP_sound (C:=E.ctx f (callN E fuel n) (callP E fuel n)) O.tt ⟨i1,i2⟩ O.mixed h1 hc h2.1 h2.2 (Nat.le_of_ble_eq_true hl) h
      ·cases h
     ·cases h
    ·cases h
theorem callN_soundB {P:Program} {E:Env} (O:EnvOk P E) {fuel n:Nat} {f:FuncId} {args:List V} {r:Ret} (h:callN E fuel n f args=some r) (he:E.ext f args=none):SoundB P E.glob f args r:=by
 cases n with
 |zero=>simp[callN_zero] at h
 |succ n=>
  obtain⟨i1,i2⟩:=callB_sound O (fuel:=fuel) n
  rw[callN_succ,he] at h
  simp only at h
  split at h
  ·rename_i fn hfn
   split at h
   ·rename_i c hc
    split at h
    ·rename_i hl
     obtain⟨h1,h2⟩:=O.fns f fn hfn
     simp only[okFn,hc,Bool.and_eq_true,Bool.not_eq_true'] at h2
     exact run_sound (C:=E.ctx f (callN E fuel n) (callP E fuel n)) O.tt ⟨i1,i2⟩ O.mixed h1 hc h2.1 h2.2 (Nat.le_of_ble_eq_true hl) h
    ·cases h
   ·cases h
  ·cases h
def assoc {α:Type} (t:Nat):List (Nat×α)→Option α
 |[]=>none
 |(u,x)::l=>bif Nat.beq t u then some x else assoc t l
theorem assoc_mem {α:Type} {t:Nat} {x:α}: ∀ {l:List (Nat×α)},assoc t l=some x→(t,x)∈l
 |[],h=>by simp[assoc] at h
 |(u,y)::l,h=>by
  simp only[assoc] at h
  cases e:Nat.beq t u with
  |true=>rw[e] at h;cases h;rw[Nat.eq_of_beq_eq_true e];exact List.mem_cons_self ..
  |false=>rw[e] at h;exact List.mem_cons_of_mem _ (assoc_mem h)
theorem ttOk_of {P:Program} {l:List (Nat×TI)} (h:l.all (fun p=>tiOk P p.1 p.2)=true)
  (ha:l.all (fun p=> !p.2.isAgg||(!P.stoodInHeld p.1 && (!p.2.eq|| !P.eqGuardType P.depth p.1)))=true):TOk P (fun t=>assoc t l):=by
 simp only[List.all_eq_true] at h ha
 refine⟨fun t i ht=>h _ (assoc_mem ht),fun t i ht hg=> ?_⟩
 have:=ha _ (assoc_mem ht)
 simp only[hg,Bool.not_true,Bool.false_or,Bool.and_eq_true,Bool.not_eq_true',Bool.or_eq_true] at this
 refine⟨this.1,fun he=> ?_⟩
 rcases this.2 with h1|h1
 ·rw[he] at h1;cases h1
 ·exact h1
end Go.VM
