/- The machine over values: calls to which blocks are handed. -/
import Derived.Test.YthpmkmogoejjpaaGreatDoorVMI
set_option linter.unusedSimpArgs false
set_option linter.unusedVariables false
namespace Go.VM
open Go
variable {P : Program} {C : Ctx} {st st' : St} {a : Act} {w : World} {own : Own} {β : Nat → Option Nat}
variable {o : Oper} {next : Act → World → Prop} {Q : Exit → Act → World → Prop}
theorem renL_some {ρ:Nat→Option Nat}: ∀ {l us:List V},renL ρ l=some us→us.length=l.length∧ ∀(j:Nat) (u:V),us[j]? =some u→ ∃x,l[j]? =some x∧renV ρ x=some u
 |[],us,h=>by simp only[renL,Option.some.injEq] at h;subst h;exact⟨rfl,fun j u h=>by simp at h⟩
 |v::l,us,h=>by
  simp only[renL] at h
  split at h
  ·rename_i u hu
   split at h
   ·rename_i ws hws
    cases h
    obtain⟨h1,h2⟩:=renL_some hws
    refine⟨by simp[h1],fun j y hy=> ?_⟩
    cases j with
    |zero=>simp at hy;subst hy;exact⟨v,rfl,hu⟩
    |succ j=>simpa using h2 j y (by simpa using hy)
   ·cases h
  ·cases h
theorem RepV.ren {w' :World} {own' :Own} {β' :Nat→Option Nat} {ρ:Nat→Option Nat} (s:Sub w own w' own') (hw:Wide w w') (hβ: ∀i k,ρ i=some k→ ∀b,β i=some b→β' k=some b)
  {v:Value} {x:V} (h:RepV w own β v x): ∀ {y:V},renV ρ x=some y→RepV w' own' β' v y:=by
 have list: ∀ {arr:Array Value} {cs us:List V},renL ρ cs=some us→(∀(j:Nat) (x:V),cs[j]? =some x→ ∀ {y:V},renV ρ x=some y→RepV w' own' β' (arr.getD j undef) y)→
   ∀(j:Nat) (x:V),us[j]? =some x→RepV w' own' β' (arr.getD j undef) x:=by
  intro arr cs us hr ih j x hx
  obtain⟨z,h1,h2⟩:=(renL_some hr).2 j x hx
  exact ih j z h1 h2
 induction h with
 |any v=>intro y e;cases e;exact .any v
 |skip=>intro y e;cases e;exact .skip
 |d v x h=>intro y e;cases e;exact .d v x (h.mono s)
 |ptr i off b h=>
  intro y e
  simp only[renV] at e
  split at e
  ·rename_i k hk;cases e;exact .ptr k off b (hβ i k hk b h)
  ·cases e
 |mu i off len cap sz b a h hs hc hm ha hb=>
  intro y e
  simp only[renV] at e
  split at e
  ·rename_i k hk
   cases e
   refine .mu k off len cap sz b a (hβ i k hk b h) hs hc hm ha (fun h0=> ?_)
   obtain⟨arr,e,h1,h2⟩:=hb h0
   obtain⟨arr',h3,h4⟩:=hw _ _ _ h1
   exact⟨arr',e,h3,by omega⟩
  ·cases e
 |gp g off=>intro y e;cases e;exact .gp g off
 |fn f arr cs hs hr ih=>
  intro y e
  simp only[renV] at e
  split at e
  ·rename_i us hus;cases e;exact .fn f arr us (hs.trans (renL_some hus).1.symm) (list hus ih)
  ·cases e
 |agg arr cs hs h1 hr ih=>
  intro y e
  simp only[renV] at e
  split at e
  ·rename_i us hus;cases e;exact .agg arr us (hs.trans (renL_some hus).1.symm) h1 (list hus ih)
  ·cases e
 |tup arr cs hs hr ih=>
  intro y e
  simp only[renV] at e
  split at e
  ·rename_i us hus;cases e;exact .tup arr us (hs.trans (renL_some hus).1.symm) (list hus ih)
  ·cases e
theorem szOf_ren {ρ:Nat→Option Nat} {x y:V} (h:renV ρ x=some y):szOf y=szOf x:=by
 cases x with
 |d x=>cases h;rfl
 |any=>cases h;rfl
 |skip=>cases h;rfl
 |gp g o=>cases h;rfl
 |ptr i o=>simp only[renV] at h;split at h<;>cases h;rfl
 |mu i o l c s=>simp only[renV] at h;split at h<;>cases h;rfl
 |fn f cs=>simp only[renV] at h;split at h<;>cases h;rfl
 |agg cs=>simp only[renV] at h;split at h<;>cases h;rfl
 |tup cs=>simp only[renV] at h;split at h<;>cases h;rfl
theorem idxOf_at: ∀ {l:List Nat} {j k:Nat},idxOf l j=some k→l[k]? =some j
 |[],j,k,h=>by cases h
 |i::l,j,k,h=>by
  simp only[idxOf] at h
  cases e:Nat.beq i j with
  |true=>rw[e] at h;cases h;rw[Nat.eq_of_beq_eq_true e];rfl
  |false=>
   rw[e] at h
   simp only[cond_false] at h
   split at h
   ·rename_i m hm;cases h;simpa using idxOf_at hm
   ·cases h
theorem idxOf_mem: ∀ {l:List Nat} {j:Nat},j∈l→ ∃k,idxOf l j=some k
 |i::l,j,h=>by
  simp only[idxOf]
  cases e:Nat.beq i j with
  |true=>exact⟨0,rfl⟩
  |false=>
   rcases List.mem_cons.1 h with h|h
   ·subst h;rw[Nat.beq_refl] at e;cases e
   ·obtain⟨k,hk⟩:=idxOf_mem h
    exact⟨k+1,by simp[hk]⟩
theorem nodupB_inj: ∀ {l:List Nat},nodupB l=true→ ∀ {j k i:Nat},l[j]? =some i→l[k]? =some i→j=k
 |[],_,j,k,i,h,_=>by simp at h
 |x::l,h,j,k,i,hj,hk=>by
  simp only[nodupB] at h
  cases e:hasNat x l with
  |true=>rw[e] at h;cases h
  |false=>
   rw[e] at h
   have hx:x∉l:=fun hm=>by rw[hasNat_iff.2 hm] at e;cases e
   cases j with
   |zero=>
    cases k with
    |zero=>rfl
    |succ k=>simp at hj hk;subst hj;exact absurd (List.mem_of_getElem? hk) hx
   |succ j=>
    cases k with
    |zero=>simp at hj hk;subst hk;exact absurd (List.mem_of_getElem? hj) hx
    |succ k=>exact congrArg (· +1) (nodupB_inj (i:=i) h (by simpa using hj) (by simpa using hk))
theorem idxOf_of_at {l:List Nat} (hn:nodupB l=true) {j k:Nat} (h:l[k]? =some j):idxOf l j=some k:=by
 obtain⟨m,hm⟩:=idxOf_mem (List.mem_of_getElem? h)
 have e:=nodupB_inj hn (idxOf_at hm) h
 rw[hm,e]
theorem getB_getO (st:St) (i:Nat):getB st i=getO st.blocks i:=by
 unfold getB getO
 cases st.blocks[i]? with
 |none=>rfl
 |some b=>cases b<;>rfl
theorem getOs_at: ∀ {l:List Nat} {bs:List (Option Blk)} {k:Nat},(getOs bs l)[k]? =l[k]?.map (getO bs)
 |[],bs,k=>by simp[getOs]
 |i::l,bs,k=>by
  cases k with
  |zero=>simp[getOs]
  |succ k=>simp[getOs,getOs_at]
theorem getOs_len: ∀(l:List Nat) (bs:List (Option Blk)),(getOs bs l).length=l.length
 |[],bs=>rfl
 |i::l,bs=>by simp[getOs,getOs_len l]
theorem renBs_some {ρ:Nat→Option Nat}: ∀ {l us:List (Option Blk)},renBs ρ l=some us→us.length=l.length∧ ∀(j:Nat) (u:Option Blk),us[j]? =some u→ ∃x,l[j]? =some x∧renB ρ x=some u
 |[],us,h=>by simp only[renBs,Option.some.injEq] at h;subst h;exact⟨rfl,fun j u h=>by simp at h⟩
 |v::l,us,h=>by
  simp only[renBs] at h
  split at h
  ·rename_i u hu
   split at h
   ·rename_i ws hws
    cases h
    obtain⟨h1,h2⟩:=renBs_some hws
    refine⟨by simp[h1],fun j y hy=> ?_⟩
    cases j with
    |zero=>simp at hy;subst hy;exact⟨v,rfl,hu⟩
    |succ j=>simpa using h2 j y (by simpa using hy)
   ·cases h
  ·cases h
theorem renB_some {ρ:Nat→Option Nat} {x:Option Blk} {B:Blk} (h:renB ρ x=some (some B)):
  (∃fz cs us,x=some (.cells fz cs)∧B= .cells fz us∧renL ρ cs=some us)∨(∃fz k xs,x=some (.ints fz k xs)∧B= .ints fz k xs):=by
 cases x with
 |none=>simp only[renB,reduceCtorEq] at h
 |some b=>
  cases b with
  |cells fz cs=>
   simp only[renB] at h
   split at h
   ·rename_i us hus;cases h;exact .inl ⟨fz,cs,us,rfl,rfl,hus⟩
   ·cases h
  |ints fz k xs=>cases h;exact .inr ⟨fz,k,xs,rfl,rfl⟩
theorem mem_renPl {ρ:Nat→Option Nat} {p:Pl}: ∀ {l:List Pl},p∈renPl ρ l→ ∃i j k,p= .b k j∧ρ i=some k∧ .b i j∈l
 |[],h=>by simp[renPl] at h
 |q::l,h=>by
  have old:p∈renPl ρ l→ ∃i j k,p= .b k j∧ρ i=some k∧ .b i j∈q::l:=fun h=>by
   obtain⟨i,j,k,h1,h2,h3⟩:=mem_renPl h
   exact⟨i,j,k,h1,h2,List.mem_cons_of_mem _ h3⟩
  cases q with
  |t u=>exact old h
  |c u j=>exact old h
  |b i j=>
   simp only[renPl] at h
   split at h
   ·rename_i k hk
    rcases List.mem_cons.1 h with h|h
    ·exact⟨i,j,k,h,hk,List.mem_cons_self ..⟩
    ·exact old h
   ·exact old h
def maskOwn (ρ:Nat→Option Nat) (β:Nat→Option Nat) (z:Ow→Option Ow) (own:Own):Own:=fun b=>match own b with
 |none=>none
 |some (.bl i,n)=>(match ρ i with
  |some k=>if β i=some b then some (.bl k,n) else(z (.bl i)).map fun q=>(q,n)
  |none=>(z (.bl i)).map fun q=>(q,n))
 |some (.pl (.b i j),n)=>(match ρ i with
  |some k=>some (.pl (.b k j),n)
  |none=>(z (.pl (.b i j))).map fun q=>(q,n))
 |some (ow,n)=>(z ow).map fun q=>(q,n)
section
variable {ρ : Nat → Option Nat} {z : Ow → Option Ow}
theorem mask_none {b:Nat} (h:own b=none):maskOwn ρ β z own b=none:=by simp[maskOwn,h]
theorem mask_some {b n:Nat} {ow:Ow} (h:maskOwn ρ β z own b=some (ow,n)): ∃ow',own b=some (ow',n)∧
  ((∃i k,ow' = .bl i∧ρ i=some k∧ow= .bl k∧β i=some b)∨(∃i j k,ow' = .pl (.b i j)∧ρ i=some k∧ow= .pl (.b k j))∨z ow' =some ow):=by
 unfold maskOwn at h
 split at h
 ·cases h
 ·rename_i i m e
  split at h
  ·rename_i k hk
   split at h
   ·rename_i hb;cases h;exact⟨_,e,.inl ⟨i,k,rfl,hk,rfl,hb⟩⟩
   ·simp only[Option.map_eq_some_iff,Prod.mk.injEq] at h
    obtain⟨q,h1,rfl,rfl⟩:=h
    exact⟨_,e,.inr (.inr h1)⟩
  ·simp only[Option.map_eq_some_iff,Prod.mk.injEq] at h
   obtain⟨q,h1,rfl,rfl⟩:=h
   exact⟨_,e,.inr (.inr h1)⟩
 ·rename_i i j m e
  split at h
  ·rename_i k hk;cases h;exact⟨_,e,.inr (.inl ⟨i,j,k,rfl,hk,rfl⟩)⟩
  ·simp only[Option.map_eq_some_iff,Prod.mk.injEq] at h
   obtain⟨q,h1,rfl,rfl⟩:=h
   exact⟨_,e,.inr (.inr h1)⟩
 ·rename_i ow' m _ _ e
  simp only[Option.map_eq_some_iff,Prod.mk.injEq] at h
  obtain⟨q,h1,rfl,rfl⟩:=h
  exact⟨_,e,.inr (.inr h1)⟩
theorem mask_bl {b n i k:Nat} (h:own b=some (.bl i,n)) (hk:ρ i=some k) (hb:β i=some b):maskOwn ρ β z own b=some (.bl k,n):=by
 simp[maskOwn,h,hk,hb]
theorem mask_pl {b n i j k:Nat} (h:own b=some (.pl (.b i j),n)) (hk:ρ i=some k):maskOwn ρ β z own b=some (.pl (.b k j),n):=by
 simp[maskOwn,h,hk]
theorem mask_far {b n:Nat} (hz:z .far=some .far) (h:own b=some (.far,n)):maskOwn ρ β z own b=some (.far,n):=by
 simp[maskOwn,h,hz]
theorem sub_mask (w:World):Sub w own w (maskOwn ρ β z own):=fun b o v h=>⟨h.cell,fun ow n hb=>by
 obtain⟨ow',h1,_⟩:=mask_some hb
 exact h.ok _ _ h1,h.one⟩
theorem ext_mask (w:World) (hz:z .far=some .far):Ext w own w (maskOwn ρ β z own) where
 os:=rfl
 tape:=rfl
 output:=rfl
 size:=Nat.le_refl _
 free b _ h:=⟨rfl,mask_none h⟩
 part b ow m _ h:=⟨fun _ _=>rfl,fun ow' n' h' =>by
  obtain⟨ow2,h1,_⟩:=mask_some h'
  rw[h] at h1;cases h1;exact Nat.le_refl _⟩
 wide:=Wide.refl w
 far b m h:=⟨rfl,mask_far hz h⟩
def turnβ (idx:List Nat) (β:Nat→Option Nat):Nat→Option Nat:=fun k=>match idx[k]? with
 |some i=>β i
 |none=>none
theorem turnβ_at {idx:List Nat} {k i:Nat} (h:idx[k]? =some i):turnβ idx β k=β i:=by simp[turnβ,h]
theorem Rel.turnX (R:Rel C st a w own β) {idx:List Nat} (hn:nodupB idx=true) {bs:List (Option Blk)} (hbs:renBs (idxOf idx) (getOs st.blocks idx)=some bs)
  {tmps:List (Nat×V)} {vals:Array Value} (ht: ∀t x,look t tmps=some x→RepV w (maskOwn (idxOf idx) β z own) (turnβ idx β) (vals.getD t undef) x)
  {ex:List Pl} (hex: ∀p∈ex,∃j,p= .t j∧ ∀x,look j tmps=some x→OwnsAt w (maskOwn (idxOf idx) β z own) (.t j) (vals.getD j undef) x):
  Rel C {tmps:=tmps,blocks:=bs,owns:=renPl (idxOf idx) st.owns++ex} {tmps:=vals,defers:=[] } w (maskOwn (idxOf idx) β z own) (turnβ idx β):=by
 have hS:Sub w own w (maskOwn (idxOf idx) β z own):=sub_mask w
 have hβ: ∀i k,idxOf idx i=some k→ ∀b,β i=some b→turnβ idx β k=some b:=fun i k h b hb=>by rw[turnβ_at (idxOf_at h),hb]
 obtain⟨hl,hat⟩:=renBs_some hbs
 have hlen:bs.length=idx.length:=hl.trans (getOs_len _ _)
 have back: ∀ {k:Nat} {B:Blk},getO bs k=some B→ ∃i B0,idx[k]? =some i∧getB st i=some B0∧renB (idxOf idx) (some B0)=some (some B):=by
  intro k B h
  simp only[getO] at h
  split at h
  ·rename_i b hb
   subst h
   obtain⟨x,h1,h2⟩:=hat k _ hb
   rw[getOs_at] at h1
   simp only[Option.map_eq_some_iff] at h1
   obtain⟨i,h3,h4⟩:=h1
   rcases renB_some h2 with⟨fz,cs,us,e1,_,_⟩|⟨fz,kk,xs,e1,_⟩
   ·exact⟨i,_,h3,by rw[getB_getO,h4,e1],by rw[←e1];exact h2⟩
   ·exact⟨i,_,h3,by rw[getB_getO,h4,e1],by rw[←e1];exact h2⟩
  ·cases h
 refine⟨rfl,ht,fun k B h=> ?_,fun k hk=> ?_,fun k hk h=> ?_,fun p hp x v hv=> ?_,fun k j hp=> ?_,fun b r h=> ?_,fun g cs h=>(R.glob g cs h).mono hS⟩
 ·rw[getB_getO] at h
  obtain⟨i,B0,h1,h2,h3⟩:=back h
  obtain⟨b,g1,g2⟩:=R.blocks i B0 h2
  refine⟨b,by rw[turnβ_at h1,g1], ?_⟩
  have hk:=idxOf_of_at hn h1
  rcases renB_some h3 with⟨fz,cs,us,e1,rfl,e3⟩|⟨fz,kk,xs,e1,rfl⟩
  ·cases e1
   cases g2 with
   |cells _ _ arr e q1 q2 q3 q4 q5=>
    refine .cells fz us arr e q1 (q2.trans (renL_some e3).1.symm) q3 (fun j x hx=> ?_) ?_
    ·obtain⟨y,y1,y2⟩:=(renL_some e3).2 j x hx
     exact(q4 j y y1).ren hS (Wide.refl w) hβ y2
    ·cases fz
     ·simpa using mask_bl (z:=z) (by simpa using q5) hk g1
     ·simpa using mask_none (by simpa using q5)
  ·cases e1
   cases g2 with
   |ints _ _ _ arr e q1 q2 q3 q5=>
    refine .ints fz kk xs arr e q1 q2 q3 ?_
    cases fz
    ·simpa using mask_bl (z:=z) (by simpa using q5) hk g1
    ·simpa using mask_none (by simpa using q5)
 ·show turnβ idx β k=none
  simp only at hk
  unfold turnβ
  rw[List.getElem?_eq_none (by omega)]
 ·simp only at hk
  have hk' :k<idx.length:=by omega
  have h1:idx[k]? =some idx[k]:=List.getElem?_eq_getElem hk'
  rw[turnβ_at h1]
  have h2:getB st idx[k]=none:=by
   cases e:getB st idx[k] with
   |none=>rfl
   |some B0=>
    exfalso
    have h3:bs[k]? =some bs[k]:=List.getElem?_eq_getElem hk
    obtain⟨x,h4,h5⟩:=hat k _ h3
    rw[getOs_at,h1] at h4
    simp only[Option.map_some,Option.some.injEq] at h4
    rw[getB_getO] at e
    rw[e] at h4
    subst h4
    rw[getB_getO] at h
    simp only[getO,h3] at h
    rw[h] at h5
    cases B0 with
    |cells fz cs=>simp only[renB] at h5;split at h5<;>cases h5
    |ints fz kk xs=>cases h5
  rcases Nat.lt_or_ge idx[k] st.blocks.length with h5|h5
  ·exact R.gone _ h5 h2
  ·exact R.fresh _ h5
 ·rcases List.mem_append.1 (hasPl_iff.1 hp) with hpm|hpm
  case inr=>
   obtain⟨j,rfl,hj⟩:=hex p hpm
   obtain⟨v1,v2⟩:=hv
   rw[v2];exact hj x v1
  obtain⟨i,j,k,rfl,hk,hm⟩:=mem_renPl hpm
  obtain⟨fz,us,b,v1,v2,v3,v4⟩:=hv
  rw[getB_getO] at v1
  obtain⟨i',B0,h1,h2,h3⟩:=back v1
  have:i' =i:=by rw[idxOf_at hk] at h1;cases h1;rfl
  subst this
  rcases renB_some h3 with⟨fz',cs,us',e1,e2,e3⟩|⟨fz',kk,xs,e1,e2⟩
  ·cases e1;cases e2
   obtain⟨y,y1,y2⟩:=(renL_some e3).2 j x v2
   have hb:β i' =some b:=by
    have e4:=turnβ_at (β:=β) h1
    rw[←e4];exact v3
   have ho:=R.owns (.b i' j) (hasPl_iff.2 hm) y v ⟨_,cs,b,h2,y1,hb,v4⟩
   intro sz hsz
   rcases ho sz (by rw[←szOf_ren y2];exact hsz) with h0|⟨bb,oo,len,cap,q1,q2⟩
   ·exact .inl h0
   ·refine .inr ⟨bb,oo,len,cap,q1, ?_⟩
    rcases q2 with q2|⟨q2,q3,q4⟩
    ·exact .inl q2
    ·exact .inr ⟨q2,mask_pl q3 hk,q4⟩
  ·cases e2
 ·rcases List.mem_append.1 (hasPl_iff.1 hp) with hpm|hpm
  case inr=>obtain⟨_,h1,_⟩:=hex _ hpm;cases h1
  obtain⟨i,j',k',h1,hk,hm⟩:=mem_renPl hpm
  cases h1
  obtain⟨B,hB⟩:=R.ob i j (hasPl_iff.2 hm)
  have h1:=idxOf_at hk
  have hkb:k<bs.length:=by rw[hlen];exact(List.getElem?_eq_some_iff.1 h1).1
  have h2:bs[k]? =some bs[k]:=List.getElem?_eq_getElem hkb
  obtain⟨x,h4,h5⟩:=hat k _ h2
  rw[getOs_at,h1] at h4
  simp only[Option.map_some,Option.some.injEq] at h4
  rw[getB_getO] at hB
  rw[hB] at h4
  subst h4
  rw[getB_getO]
  simp only[getO,h2]
  cases B with
  |cells fz cs=>
   simp only[renB] at h5
   split at h5
   ·exact⟨_,(Option.some.inj h5).symm⟩
   ·cases h5
  |ints fz kk xs=>exact⟨_,(Option.some.inj h5).symm⟩
 ·obtain⟨ow,n⟩:=r
  obtain⟨ow',h1,_⟩:=mask_some h
  exact R.plain b _ h1
theorem Rel.turn (R:Rel C st a w own β) {idx:List Nat} (hn:nodupB idx=true) {bs:List (Option Blk)} (hbs:renBs (idxOf idx) (getOs st.blocks idx)=some bs)
  {tmps:List (Nat×V)} {vals:Array Value} (ht: ∀t x,look t tmps=some x→RepV w (maskOwn (idxOf idx) β z own) (turnβ idx β) (vals.getD t undef) x):
  Rel C {tmps:=tmps,blocks:=bs,owns:=renPl (idxOf idx) st.owns} {tmps:=vals,defers:=[] } w (maskOwn (idxOf idx) β z own) (turnβ idx β):=by
 have:=R.turnX (z:=z) hn hbs ht (ex:=[]) (fun p hp=>by cases hp)
 rwa [List.append_nil] at this
theorem nil_empty {v:Value} {x:V} (h:RepV w own β v x) (hx:isNilD x=true):Empty0 v:=by
 cases h with
 |d v y h=>
  cases h with
  |numsNil k=>exact .inl rfl
  |slNil sz=>exact .inl rfl
  |_=>simp[isNilD] at hx
 |_=>simp[isNilD] at hx
end
end Go.VM
set_option linter.unusedSimpArgs false
set_option linter.unusedVariables false
namespace Go.VM
open Go
variable {P : Program} {C : Ctx} {st st' : St} {a : Act} {w : World} {own : Own} {β : Nat → Option Nat}
variable {o : Oper} {next : Act → World → Prop} {Q : Exit → Act → World → Prop}
theorem setBs_len: ∀(l:List Nat) (bs all:List (Option Blk)),(setBs l bs all).length=all.length
 |[],bs,all=>by cases bs<;>rfl
 |i::l,[],all=>rfl
 |i::l,b::bs,all=>by simp[setBs,setBs_len l]
theorem setBs_other {i:Nat}: ∀ {l:List Nat} {bs all:List (Option Blk)},i∉l→(setBs l bs all)[i]? =all[i]?
 |[],bs,all,_=>by cases bs<;>rfl
 |j::l,[],all,_=>rfl
 |j::l,b::bs,all,h=>by
  simp only[List.mem_cons,not_or] at h
  simp only[setBs]
  rw[setBs_other h.2,List.getElem?_set_ne (Ne.symm h.1)]
theorem setBs_at {i:Nat} {b:Option Blk}: ∀ {l:List Nat} {k:Nat} {bs all:List (Option Blk)},nodupB l=true→l[k]? =some i→bs[k]? =some b→i<all.length→
  (setBs l bs all)[i]? =some b
 |[],k,bs,all,_,h,_,_=>by simp at h
 |j::l,k,[],all,_,_,h,_=>by simp at h
 |j::l,k,c::bs,all,hn,h,hb,hi=>by
  simp only[nodupB] at hn
  cases e:hasNat j l with
  |true=>rw[e] at hn;cases hn
  |false=>
   rw[e] at hn
   have hj:j∉l:=fun hm=>by rw[hasNat_iff.2 hm] at e;cases e
   simp only[setBs]
   cases k with
   |zero=>
    simp at h hb
    subst h hb
    rw[setBs_other hj]
    simp[hi]
   |succ k=>exact setBs_at hn (by simpa using h) (by simpa using hb) (by simpa using hi)
theorem allSome_at: ∀ {l:List (Option Blk)} {k:Nat} {x:Option Blk},allSome l=true→l[k]? =some x→ ∃B,x=some B
 |[],k,x,_,h=>by simp at h
 |none::l,k,x,h,_=>by cases h
 |some B::l,k,x,h,hk=>by
  cases k with
  |zero=>simp at hk;exact⟨B,hk.symm⟩
  |succ k=>exact allSome_at (l:=l) h (by simpa using hk)
theorem outN_in {idx:List Nat} {n k i:Nat} (h:idx[k]? =some i):outN idx n k=i:=by simp[outN,h]
theorem outN_out {idx:List Nat} {n k:Nat} (h:idx.length≤k):outN idx n k=n+(k-idx.length):=by
 simp[outN,List.getElem?_eq_none h]
theorem headOk_iff: ∀ {l:List Nat} {bs:List (Option Blk)},headOk l bs=true→l.length≤bs.length∧allSome (bs.take l.length)=true
 |[],bs,_=>⟨by simp,by simp[allSome]⟩
 |_::l,[],h=>by cases h
 |_::l,none::bs,h=>by cases h
 |_::l,some B::bs,h=>by
  obtain⟨h1,h2⟩:=headOk_iff (l:=l) (bs:=bs) h
  exact⟨by simp[h1],by simpa[allSome] using h2⟩
theorem dropL_eq: ∀(l:List Nat) (bs:List (Option Blk)),dropL l bs=bs.drop l.length
 |[],bs=>by cases bs<;>rfl
 |_::l,[]=>by simp[dropL]
 |_::l,b::bs=>by simp[dropL,dropL_eq l bs]
def zRoom (rs:List (Option Nat×Nat)):Ow→Option Ow
 | .pl (.t s)=>match findS s rs with
  |some j=>some (.pl (.t j))
  |none=>some .far
 |_=>some .far
def mergeOwn (own own1 own1' :Own) (out:Nat→Nat) (f:Pl→Pl):Own:=fun b=>match own1 b with
 |some (.far,_)=>own b
 |_=>match own1' b with
  |none=>none
  |some (.far,n)=>some (.far,n)
  |some (.bl k,n)=>some (.bl (out k),n)
  |some (.pl (.b k j),n)=>some (.pl (.b (out k) j),n)
  |some (.pl p,n)=>some (.pl (f p),n)
section
variable {own1 own1' : Own} {out : Nat → Nat} {f : Pl → Pl} {w' : World}
theorem merge_far {b n:Nat} (h:own1 b=some (.far,n)):mergeOwn own own1 own1' out f b=own b:=by simp[mergeOwn,h]
theorem merge_or {b n:Nat} {ow:Ow} (h:mergeOwn own own1 own1' out f b=some (ow,n)):((∃m,own1 b=some (.far,m))∧own b=some (ow,n))∨((∀m,own1 b≠some (.far,m))∧ ∃ow',own1' b=some (ow',n)):=by
 unfold mergeOwn at h
 split at h
 ·rename_i m e;exact .inl ⟨⟨m,e⟩,h⟩
 ·rename_i hne
  right
  refine⟨hne, ?_⟩
  split at h
  ·cases h
  all_goals (rename_i e;cases h;exact⟨_,e⟩)
theorem merge_none {b:Nat} (h: ∀m,own1 b≠some (.far,m)) (h1:own1' b=none):mergeOwn own own1 own1' out f b=none:=by
 unfold mergeOwn
 split
 ·rename_i m e;exact absurd e (h m)
 ·rw[h1]
theorem merge_bl {b k n:Nat} (h: ∀m,own1 b≠some (.far,m)) (h1:own1' b=some (.bl k,n)):mergeOwn own own1 own1' out f b=some (.bl (out k),n):=by
 unfold mergeOwn
 split
 ·rename_i m e;exact absurd e (h m)
 ·rw[h1]
theorem merge_pb {b k j n:Nat} (h: ∀m,own1 b≠some (.far,m)) (h1:own1' b=some (.pl (.b k j),n)):mergeOwn own own1 own1' out f b=some (.pl (.b (out k) j),n):=by
 unfold mergeOwn
 split
 ·rename_i m e;exact absurd e (h m)
 ·rw[h1]
theorem merge_pc {b t j n:Nat} (h: ∀m,own1 b≠some (.far,m)) (h1:own1' b=some (.pl (.c t j),n)):mergeOwn own own1 own1' out f b=some (.pl (f (.c t j)),n):=by
 unfold mergeOwn
 split
 ·rename_i m e;exact absurd e (h m)
 ·rw[h1]
theorem not_far (E:Ext w own1 w' own1') {b:Nat} (h: ∀n,own1' b≠some (.far,n)): ∀m,own1 b≠some (.far,m):=fun m e=>h m (E.far b m e).2
theorem ext_merge (E:Ext w own1 w' own1') (h1: ∀b,own b=none→own1 b=none) (h2: ∀b ow n,own b=some (ow,n)→ ∃ow',own1 b=some (ow',n)) (h3: ∀b n,own b=some (.far,n)→own1 b=some (.far,n)):
  Ext w own w' (mergeOwn own own1 own1' out f) where
 os:=E.os
 tape:=E.tape
 output:=E.output
 size:=E.size
 free b hb ho:=by
  obtain⟨e1,e2⟩:=E.free b hb (h1 b ho)
  exact⟨e1,merge_none (fun m e=>by rw[h1 b ho] at e;cases e) e2⟩
 part b ow n hb ho:=by
  obtain⟨ow',e1⟩:=h2 b ow n ho
  obtain⟨e2,e3⟩:=E.part b ow' n hb e1
  refine⟨e2,fun ow2 n2 h=> ?_⟩
  rcases merge_or h with⟨_,h⟩|⟨_,ow3,h⟩
  ·rw[ho] at h;cases h;exact Nat.le_refl _
  ·exact e3 _ _ h
 wide:=E.wide
 far b n ho:=⟨(E.far b n (h3 b n ho)).1,by rw[merge_far (h3 b n ho)];exact ho⟩
theorem sub_merge (E:Ext w own1 w' own1') (h2: ∀b ow n,own b=some (ow,n)→ ∃ow',own1 b=some (ow',n)):Sub w' own1' w' (mergeOwn own own1 own1' out f):=fun b o u h=>⟨h.cell,fun ow n hb=>by
 rcases merge_or hb with⟨⟨m,e1⟩,hb⟩|⟨_,ow3,hb⟩
 ·obtain⟨ow',e2⟩:=h2 b ow n hb
  rw[e1] at e2;cases e2
  exact h.ok _ _ (E.far b _ e1).2
 ·exact h.ok _ _ hb,h.one⟩
theorem owns_merge (E:Ext w own1 w' own1') {t j:Nat} {u:Value} {x y:V} (hs:szOf y=szOf x) (h:OwnsAt w' own1' (.c t j) u x):OwnsAt w' (mergeOwn own own1 own1' out f) (f (.c t j)) u y:=by
 intro sz hsz
 rcases h sz (hs▸hsz) with h0|⟨b,o,len,cap,h1,h2⟩
 ·exact .inl h0
 ·refine .inr ⟨b,o,len,cap,h1, ?_⟩
  rcases h2 with h2|⟨h2,h3,h4⟩
  ·exact .inl h2
  ·exact .inr ⟨h2,merge_pc (not_far E (fun n e=>by rw[e] at h3;cases h3)) h3,h4⟩
end
def joinβ (K n:Nat) (β β1' :Nat→Option Nat):Nat→Option Nat:=fun i=>if i<n then β i else β1' (K+(i-n))
theorem Rel.merge (R:Rel C st a w own β) {idx:List Nat} (rs:List (Option Nat×Nat)) (hn:nodupB idx=true) (hall:allSome (getOs st.blocks idx)=true)
  {C1:Ctx} {ts:List (Nat×V)} {hb:List (Option Blk)} {ho:List Pl} {a1:Act} {w' :World} {own1' :Own} {β1' :Nat→Option Nat}
  (R' :Rel C1 {tmps:=ts,blocks:=hb,owns:=ho} a1 w' own1' β1') (E:Ext w (maskOwn (idxOf idx) β (zRoom rs) own) w' own1')
  (hβ: ∀k,k<idx.length→ ∀b,turnβ idx β k=some b→β1' k=some b) (hk:idx.length≤hb.length) (hs:allSome (hb.take idx.length)=true)
  {bs' :List (Option Blk)} (hbs' :renBs (outIx idx st.blocks.length) hb=some bs') (f:Pl→Pl):
  Ext w own w' (mergeOwn own (maskOwn (idxOf idx) β (zRoom rs) own) own1' (outN idx st.blocks.length) f)∧
  Sub w' own1' w' (mergeOwn own (maskOwn (idxOf idx) β (zRoom rs) own) own1' (outN idx st.blocks.length) f)∧
  (∀k b,β1' k=some b→joinβ idx.length st.blocks.length β β1' (outN idx st.blocks.length k)=some b)∧
  (∀i,i<st.blocks.length→ ∀b,β i=some b→joinβ idx.length st.blocks.length β β1' i=some b)∧
  Rel C {tmps:=st.tmps,blocks:=setBs idx bs' st.blocks++bs'.drop idx.length,owns:=renPl (outIx idx st.blocks.length) ho++dropPl (goneB idx rs) st.owns} a w'
   (mergeOwn own (maskOwn (idxOf idx) β (zRoom rs) own) own1' (outN idx st.blocks.length) f) (joinβ idx.length st.blocks.length β β1'):=by
 generalize hown1:maskOwn (idxOf idx) β (zRoom rs) own=own1 at*
 generalize hn' :st.blocks.length=n at*
 have m1: ∀b,own b=none→own1 b=none:=fun b h=>by rw[←hown1];exact mask_none h
 have m2: ∀b ow k,own b=some (ow,k)→ ∃ow',own1 b=some (ow',k):=fun b ow k h=>by
  rw[←hown1]
  unfold maskOwn
  rw[h]
  cases ow with
  |far=>exact⟨_,rfl⟩
  |bl i=>
   simp only
   split
   ·split
    ·exact⟨_,rfl⟩
    ·exact⟨_,rfl⟩
   ·exact⟨_,rfl⟩
  |pl p=>
   cases p with
   |b i j=>simp only;split<;>exact⟨_,rfl⟩
   |c t j=>exact⟨_,rfl⟩
   |t t=>
    simp only[zRoom]
    cases findS t rs with
    |none=>exact⟨_,rfl⟩
    |some j=>exact⟨_,rfl⟩
 have m3: ∀b k,own b=some (.far,k)→own1 b=some (.far,k):=fun b k h=>by rw[←hown1];exact mask_far rfl h
 have EM:=ext_merge (out:=outN idx n) (f:=f) E m1 m2 m3
 have SM:=sub_merge (out:=outN idx n) (f:=f) E m2
 generalize hM:mergeOwn own own1 own1' (outN idx n) f=ownM at*
 have hand: ∀ {k i:Nat},idx[k]? =some i→i<n∧ ∃B b,getB st i=some B∧β i=some b∧β1' k=some b:=by
  intro k i h
  have h1:(getOs st.blocks idx)[k]? =some (getO st.blocks i):=by rw[getOs_at,h];rfl
  obtain⟨B,hB⟩:=allSome_at hall h1
  rw[←getB_getO] at hB
  obtain⟨b,hb1,_⟩:=R.blocks i B hB
  refine⟨?_,B,b,hB,hb1,hβ k (List.getElem?_eq_some_iff.1 h).1 b (by rw[turnβ_at h,hb1])⟩
  rcases Nat.lt_or_ge i n with h5|h5
  ·exact h5
  ·rw[R.fresh i (by rw[hn'];exact h5)] at hb1;cases hb1
 have J1: ∀k b,β1' k=some b→joinβ idx.length n β β1' (outN idx n k)=some b:=by
  intro k b h
  rcases Nat.lt_or_ge k idx.length with h5|h5
  ·have h6:idx[k]? =some idx[k]:=List.getElem?_eq_getElem h5
   obtain⟨h7,B,b',_,h8,h9⟩:=hand h6
   rw[outN_in h6]
   simp only[joinβ,if_pos h7]
   rw[h] at h9;cases h9;exact h8
  ·rw[outN_out h5]
   simp only[joinβ,if_neg (show¬n+(k-idx.length)<n by omega)]
   rw[←h];congr 1;omega
 have J2: ∀i,i<n→ ∀b,β i=some b→joinβ idx.length n β β1' i=some b:=fun i hi b h=>by simp[joinβ,hi,h]
 have J2' : ∀i b,β i=some b→joinβ idx.length n β β1' i=some b:=fun i b h=>by
  rcases Nat.lt_or_ge i n with h5|h5
  ·exact J2 i h5 b h
  ·rw[R.fresh i (by rw[hn'];exact h5)] at h;cases h
 obtain⟨bl,bat⟩:=renBs_some hbs'
 have hlen:(setBs idx bs' st.blocks).length=n:=by rw[setBs_len,hn']
 let new:St:= {tmps:=st.tmps,blocks:=setBs idx bs' st.blocks++bs'.drop idx.length,owns:=renPl (outIx idx n) ho++dropPl (goneB idx rs) st.owns}
 have at_out: ∀ {k i:Nat},(k<hb.length∧i=outN idx n k)→getO new.blocks i=getO bs' k:=by
  rintro k i ⟨hk1,rfl⟩
  rcases Nat.lt_or_ge k idx.length with h5|h5
  ·have h6:idx[k]? =some idx[k]:=List.getElem?_eq_getElem h5
   obtain⟨h7,_⟩:=hand h6
   have h8:bs'[k]? =some bs'[k]:=List.getElem?_eq_getElem (by omega)
   have:=setBs_at (bs:=bs') (all:=st.blocks) hn h6 h8 (by omega)
   rw[outN_in h6]
   simp only[getO,new]
   rw[List.getElem?_append_left (by omega),this,h8]
  ·rw[outN_out h5]
   simp only[getO,new]
   rw[List.getElem?_append_right (by omega),hlen,List.getElem?_drop]
   congr 2;omega
 have at_old: ∀ {i:Nat},i<n→i∉idx→getO new.blocks i=getO st.blocks i:=by
  intro i h1 h2
  simp only[getO,new]
  rw[List.getElem?_append_left (by omega),setBs_other h2]
 have cover: ∀ {i:Nat},i<new.blocks.length→(i<n∧i∉idx)∨ ∃k,k<hb.length∧i=outN idx n k:=by
  intro i hi
  simp only[new,List.length_append,hlen,List.length_drop] at hi
  by_cases h1:i∈idx
  ·obtain⟨k,hk1⟩:=idxOf_mem h1
   have h2:=idxOf_at hk1
   exact .inr ⟨k,by have:=(List.getElem?_eq_some_iff.1 h2).1;omega,(outN_in h2).symm⟩
  ·rcases Nat.lt_or_ge i n with h5|h5
   ·exact .inl ⟨h5,h1⟩
   ·exact .inr ⟨idx.length+(i-n),by omega,by rw[outN_out (by omega)];omega⟩
 have came: ∀ {k:Nat} {B:Blk},getO bs' k=some B→ ∃B0,getO hb k=some B0∧renB (outIx idx n) (some B0)=some (some B)∧k<hb.length:=by
  intro k B h
  simp only[getO] at h
  split at h
  ·rename_i x hx
   subst h
   obtain⟨y,h1,h2⟩:=bat k _ hx
   rcases renB_some h2 with⟨fz,cs,us,e1,_,_⟩|⟨fz,kk,xs,e1,_⟩
   ·subst e1
    exact⟨_,by simp only[getO,h1],h2,(List.getElem?_eq_some_iff.1 h1).1⟩
   ·subst e1
    exact⟨_,by simp only[getO,h1],h2,(List.getElem?_eq_some_iff.1 h1).1⟩
  ·cases h
 have own_out: ∀ {b k:Nat} {fz:Bool},own1' b=(if fz then none else some (.bl k,0))→(fz=true→ ∀m,own1 b≠some (.far,m))→ownM b=if fz then none else some (.bl (outN idx n k),0):=by
  intro b k fz h hf
  rw[←hM]
  cases fz with
  |true=>exact merge_none (not_far E (fun n e=>by simp[e] at h)) (by simpa using h)
  |false=>exact merge_bl (not_far E (fun n e=>by simp[e] at h)) (by simpa using h)
 have nf: ∀ {b:Nat},own1' b=none→ ∀m,own1 b≠some (.far,m):=fun h=>not_far E (fun n e=>by rw[h] at e;cases e)
 have renβ: ∀i k,outIx idx n i=some k→ ∀b,β1' i=some b→joinβ idx.length n β β1' k=some b:=fun i k h b hb=>by
  simp only[outIx,Option.some.injEq] at h;subst h;exact J1 i b hb
 have stays: ∀ {i b:Nat} {B:Blk},i∉idx→β i=some b→BlkRel w own β i b B→w'.heap[b]? =w.heap[b]? ∧ownM b=own b:=by
  intro i b B hi hbi hB
  have hlt:b<w.heap.size:=hB.lt
  have ho:own b=none∨own b=some (.bl i,0):=by
   cases hB with
   |cells fz _ _ _ _ _ _ _ h5=>cases fz<;>simp at h5<;>simp[h5]
   |ints fz _ _ _ _ _ _ _ h5=>cases fz<;>simp at h5<;>simp[h5]
  rcases ho with ho|ho
  ·obtain⟨e1,e2⟩:=EM.free b hlt ho
   exact⟨e1,by rw[e2,ho]⟩
  ·have hf:own1 b=some (.far,0):=by
    rw[←hown1]
    unfold maskOwn
    rw[ho]
    simp only
    have:idxOf idx i=none:=by
     cases e:idxOf idx i with
     |none=>rfl
     |some k=>exact absurd (List.mem_of_getElem? (idxOf_at e)) hi
    rw[this];rfl
   exact⟨(E.far b 0 hf).1,by rw[←hM];exact merge_far hf⟩
 refine⟨EM,SM,J1,J2, ?_⟩
 show Rel C new a w' ownM (joinβ idx.length n β β1')
 refine⟨R.defers,fun t x h=>(R.tmps t x h).mono EM.sub EM.wide J2',fun i B h=> ?_,fun i hi=> ?_,fun i hi h=> ?_,fun p hp x v hv=> ?_,fun i j hp=> ?_,fun b r h=> ?_,fun g cs h=>(R.glob g cs h).mono EM.sub⟩
 ·--blocks
  rw[getB_getO] at h
  have hi:i<new.blocks.length:=by
   simp only[getO] at h
   split at h
   ·rename_i e;exact(List.getElem?_eq_some_iff.1 e).1
   ·cases h
  rcases cover hi with⟨h1,h2⟩|⟨k,h1,rfl⟩
  ·rw[at_old h1 h2,←getB_getO] at h
   obtain⟨b,g1,g2⟩:=R.blocks i B h
   obtain⟨e1,e2⟩:=stays h2 g1 g2
   exact⟨b,J2' i b g1,g2.mono EM.sub EM.wide J2' e1 e2⟩
  ·rw[at_out ⟨h1,rfl⟩] at h
   obtain⟨B0,c1,c2,c3⟩:=came h
   obtain⟨b,g1,g2⟩:=R'.blocks k B0 (by rw[getB_getO];exact c1)
   refine⟨b,J1 k b g1, ?_⟩
   rcases renB_some c2 with⟨fz,cs,us,e1,rfl,e3⟩|⟨fz,kk,xs,e1,rfl⟩
   ·cases e1
    cases g2 with
    |cells _ _ arr e q1 q2 q3 q4 q5=>
     refine .cells fz us arr e q1 (q2.trans (renL_some e3).1.symm) q3 (fun j x hx=> ?_) (own_out q5 (fun hf=>nf (by simpa[hf] using q5)))
     obtain⟨y,y1,y2⟩:=(renL_some e3).2 j x hx
     exact(q4 j y y1).ren SM (Wide.refl w') renβ y2
   ·cases e1
    cases g2 with
    |ints _ _ _ arr e q1 q2 q3 q5=>
     exact .ints fz kk xs arr e q1 q2 q3 (own_out q5 (fun hf=>nf (by simpa[hf] using q5)))
 ·--fresh
  simp only[new,List.length_append,hlen,List.length_drop] at hi
  simp only[joinβ,if_neg (show¬i<n by omega)]
  exact R'.fresh _ (by simp only;omega)
 ·--gone
  rw[getB_getO] at h
  rcases cover hi with⟨h1,h2⟩|⟨k,h1,rfl⟩
  ·rw[at_old h1 h2,←getB_getO] at h
   simp only[joinβ,if_pos h1]
   exact R.gone i (by rw[hn'];exact h1) h
  ·rw[at_out ⟨h1,rfl⟩] at h
   have hgone:getB ({tmps:=ts,blocks:=hb,owns:=ho}:St) k=none:=by
    rw[getB_getO]
    cases e:getO hb k with
    |none=>rfl
    |some B0=>
     exfalso
     have h3:hb[k]? =some (some B0):=by
      simp only[getO] at e
      split at e
      ·rename_i x hx;rw[hx,e]
      ·cases e
     have h4:bs'[k]? =some bs'[k]:=List.getElem?_eq_getElem (by omega)
     obtain⟨y,h5,h6⟩:=bat k _ h4
     rw[h3] at h5;cases h5
     simp only[getO,h4] at h
     rw[h] at h6
     cases B0 with
     |cells fz cs=>simp only[renB] at h6;split at h6<;>cases h6
     |ints fz kk xs=>cases h6
   have h5:idx.length≤k:=by
    rcases Nat.lt_or_ge k idx.length with h5|h5
    ·exfalso
     have h6:(hb.take idx.length)[k]? =some hb[k]:=by rw[List.getElem?_take,if_pos h5];exact List.getElem?_eq_getElem h1
     obtain⟨B,hB⟩:=allSome_at hs h6
     rw[getB_getO] at hgone
     simp only[getO,List.getElem?_eq_getElem h1,hB] at hgone
     cases hgone
    ·exact h5
   rw[outN_out h5]
   simp only[joinβ,if_neg (show¬n+(k-idx.length)<n by omega)]
   have:=R'.gone k h1 hgone
   rw[←this];congr 1;omega
 ·--owns
  have hp' :=hasPl_iff.1 hp
  rcases List.mem_append.1 hp' with hm|hm
  ·obtain⟨k,j,i,rfl,hk1,hmm⟩:=mem_renPl hm
   simp only[outIx,Option.some.injEq] at hk1
   subst hk1
   obtain⟨fz,us,b,v1,v2,v3,v4⟩:=hv
   obtain⟨Bk,hBk⟩:=R'.ob k j (hasPl_iff.2 hmm)
   have hlt:k<hb.length:=by
    rw[getB_getO] at hBk
    simp only[getO] at hBk
    split at hBk
    ·rename_i e;exact(List.getElem?_eq_some_iff.1 e).1
    ·cases hBk
   rw[getB_getO,at_out ⟨hlt,rfl⟩] at v1
   obtain⟨B0,c1,c2,c3⟩:=came v1
   rcases renB_some c2 with⟨fz',cs,us',e1,e2,e3⟩|⟨fz',kk,xs,e1,e2⟩
   ·cases e1;cases e2
    obtain⟨y,y1,y2⟩:=(renL_some e3).2 j x v2
    obtain⟨b',g1,_⟩:=R'.blocks k _ (by rw[getB_getO];exact c1)
    have hbb:b' =b:=by have:=J1 k b' g1;rw[v3] at this;cases this;rfl
    subst hbb
    have hw:=R'.owns (.b k j) (hasPl_iff.2 hmm) y v ⟨_,cs,b',by rw[getB_getO];exact c1,y1,g1,v4⟩
    intro sz hsz
    rcases hw sz (by rw[←szOf_ren y2];exact hsz) with h0|⟨bb,oo,len,cap,q1,q2⟩
    ·exact .inl h0
    ·refine .inr ⟨bb,oo,len,cap,q1, ?_⟩
     rcases q2 with q2|⟨q2,q3,q4⟩
     ·exact .inl q2
     ·exact .inr ⟨q2,by rw[←hM];exact merge_pb (not_far E (fun n e=>by rw[e] at q3;cases q3)) q3,q4⟩
   ·cases e2
  ·obtain⟨hm1,hm2⟩:=mem_dropPl.1 hm
   have hv' :ValAt st a w β p x v:=by
    cases p with
    |t t=>exact hv
    |c t j=>exact hv
    |b i j=>
     obtain⟨fz,cs,b,v1,v2,v3,v4⟩:=hv
     have hi:i∉idx:=fun h=>by simp only[goneB] at hm2;rw[hasNat_iff.2 h] at hm2;cases hm2
     obtain⟨B0,hB0⟩:=R.ob i j (hasPl_iff.2 hm1)
     obtain⟨b0,g1,g2⟩:=R.blocks i B0 hB0
     have hin:i<n:=by
      rcases Nat.lt_or_ge i n with h5|h5
      ·exact h5
      ·rw[R.fresh i (by rw[hn'];exact h5)] at g1;cases g1
     rw[getB_getO,at_old hin hi,←getB_getO] at v1
     have hbb:b0=b:=by have:=J2' i b0 g1;rw[v3] at this;cases this;rfl
     subst hbb
     exact⟨fz,cs,b0,v1,v2,g1,by rw[←v4];exact(cell_of_heap (stays hi g1 g2).1 j).symm⟩
   intro sz hsz
   rcases R.owns p (hasPl_iff.2 hm1) x v hv' sz hsz with h0|⟨b,o,len,cap,h1,h2⟩
   ·exact .inl h0
   ·refine .inr ⟨b,o,len,cap,h1, ?_⟩
    rcases h2 with h2|⟨h2,h3,arr,e,h4,h5⟩
    ·exact .inl h2
    ·obtain⟨arr',h6,h7⟩:=EM.wide b arr e h4
     have hf:own1 b=some (.far,len*sz):=by
      rw[←hown1]
      unfold maskOwn
      rw[h3]
      cases p with
      |t t=>
       simp only[goneB] at hm2
       cases hf:findS t rs with
       |none=>simp[zRoom,hf]
       |some j=>rw[hf] at hm2;cases hm2
      |c t j=>rfl
      |b i j=>
       have hi:i∉idx:=fun h=>by simp only[goneB] at hm2;rw[hasNat_iff.2 h] at hm2;cases hm2
       simp only
       have:idxOf idx i=none:=by
        cases e:idxOf idx i with
        |none=>rfl
        |some k=>exact absurd (List.mem_of_getElem? (idxOf_at e)) hi
       rw[this];rfl
     exact .inr ⟨h2,by rw[←hM,merge_far hf];exact h3,arr',e,h6,h7.trans h5⟩
 ·--ob
  rcases List.mem_append.1 (hasPl_iff.1 hp) with hm|hm
  ·obtain⟨k,j',i',h1,hk1,hmm⟩:=mem_renPl hm
   cases h1
   simp only[outIx,Option.some.injEq] at hk1
   subst hk1
   obtain⟨B0,hB0⟩:=R'.ob k j (hasPl_iff.2 hmm)
   rw[getB_getO] at hB0
   have h3:hb[k]? =some (some B0):=by
    simp only[getO] at hB0
    split at hB0
    ·rename_i x hx;rw[hx];exact congrArg some hB0
    ·cases hB0
   have hlt:k<hb.length:=(List.getElem?_eq_some_iff.1 h3).1
   have h4:bs'[k]? =some bs'[k]:=List.getElem?_eq_getElem (by omega)
   obtain⟨y,h5,h6⟩:=bat k _ h4
   rw[h3] at h5;cases h5
   rw[getB_getO,at_out ⟨hlt,rfl⟩]
   simp only[getO,h4]
   cases B0 with
   |cells fz cs=>
    simp only[renB] at h6
    split at h6
    ·exact⟨_,(Option.some.inj h6).symm⟩
    ·cases h6
   |ints fz kk xs=>exact⟨_,(Option.some.inj h6).symm⟩
  ·obtain⟨hm1,hm2⟩:=mem_dropPl.1 hm
   obtain⟨B0,hB0⟩:=R.ob i j (hasPl_iff.2 hm1)
   have hi:i∉idx:=fun h=>by simp only[goneB] at hm2;rw[hasNat_iff.2 h] at hm2;cases hm2
   obtain⟨b0,g1,g2⟩:=R.blocks i B0 hB0
   have hin:i<n:=by
    rcases Nat.lt_or_ge i n with h5|h5
    ·exact h5
    ·rw[R.fresh i (by rw[hn'];exact h5)] at g1;cases g1
   exact⟨B0,by rw[getB_getO,at_old hin hi,←getB_getO];exact hB0⟩
 ·--plain
  obtain⟨ow,m⟩:=r
  rw[←hM] at h
  rcases merge_or h with⟨_,h⟩|⟨_,ow3,h⟩
  ·obtain⟨arr,e,h1⟩:=R.plain b _ h
   obtain⟨arr',h2,_⟩:=EM.wide b arr e h1
   exact⟨arr',e,h2⟩
  ·exact R'.plain b _ h
end Go.VM
