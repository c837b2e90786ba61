/- The machine over values: what a world holds of it. -/
import Derived.Test.YthpmkmogoejjpaaGreatDoorVMA
set_option linter.unusedSimpArgs false
set_option linter.unusedVariables false
namespace Go.VM
open Go
inductive Ow where
 |pl (p:Pl)
 |bl (i:Nat)
 |far
abbrev Own := Nat → Option (Ow × Nat)
def okc (own:Own) (b o:Nat):Prop:= ∀ow n,own b=some (ow,n)→o<n
structure Fc (w : World) (own : Own) (b o : Nat) (v : Value) : Prop where
 cell:w.cell? ⟨b,o,none⟩=some v
 ok:okc own b o
 one:v.oneCell' =true
inductive RepD (w : World) (own : Own) : Value → D → Prop
 |bool (b:Bool):RepD w own (.bool b) (.bool b)
 |int (k:IntKind) (n:Int) (h:k.wrap n=n):RepD w own (.int k n) (.int k n)
 |str (s:ByteArray) (l:List Int) (h:bytesI s=l) (hl:l.length≤maxLen):RepD w own (.string s) (.str l)
 |numsNil (k:IntKind):RepD w own (.slice none 0 0) (.nums k true [])
 |nums (k:IntKind) (b o len cap:Nat) (xs:List Int) (hl:xs.length=len) (hc:len≤cap) (hm:cap≤maxLen)
   (h: ∀i x,xs[i]? =some x→Fc w own b (o+i) (.int k x)) (hw: ∀(i:Nat) (x:Int),xs[i]? =some x→k.wrap x=x):
   RepD w own (.slice (some ⟨b,o,none⟩) len cap) (.nums k false xs)
 |slNil (sz:Nat):RepD w own (.slice none 0 0) (.sl sz true [])
 |numsE (k:IntKind) (a:Addr) (cap:Nat) (hm:cap≤maxLen):RepD w own (.slice (some a) 0 cap) (.nums k false [])
 |slE (sz:Nat) (a:Addr) (cap:Nat) (hm:cap≤maxLen):RepD w own (.slice (some a) 0 cap) (.sl sz false [])
 |sl (sz b o len cap:Nat) (xs:List (List D)) (val:Nat→Nat→Value) (hl:xs.length=len) (hc:len≤cap) (hm:cap≤maxLen)
   (hs: ∀(i:Nat) (c:List D),xs[i]? =some c→c.length=sz)
   (h: ∀(i r:Nat) (c:List D) (x:D),xs[i]? =some c→c[r]? =some x→Fc w own b (o+i*sz+r) (val i r))
   (hr: ∀(i r:Nat) (c:List D) (x:D),xs[i]? =some c→c[r]? =some x→RepD w own (val i r) x):
   RepD w own (.slice (some ⟨b,o,none⟩) len cap) (.sl sz false xs)
 |agg (arr:Array Value) (cs:List D) (hs:arr.size=cs.length) (h1: ∀(j:Nat),j<arr.size→(arr.getD j undef).oneCell' =true)
   (hr: ∀(j:Nat) (x:D),cs[j]? =some x→RepD w own (arr.getD j undef) x):RepD w own (.agg arr) (.agg cs)
 |ifc (t:TypeId) (v:Value) (x:D) (h:RepD w own v x):RepD w own (.iface t v) (.ifc t x)
 |nilifc:RepD w own .nilIface .nilifc
 |fp (b o:Nat) (cs:List D) (val:Nat→Value) (h: ∀(j:Nat) (x:D),cs[j]? =some x→Fc w own b (o+j) (val j))
   (hr: ∀(j:Nat) (x:D),cs[j]? =some x→RepD w own (val j) x):RepD w own (.pointer (some ⟨b,o,none⟩)) (.fp cs)
 |nilptr:RepD w own (.pointer none) .nilptr
 |nilfn:RepD w own .nilFunc .nilfn
 |rt (b o:Nat):RepD w own (.pointer (some ⟨b,o,none⟩)) (.rt b o)
def Sub (w:World) (own:Own) (w' :World) (own' :Own):Prop:= ∀b o v,Fc w own b o v→Fc w' own' b o v
theorem Sub.refl (w:World) (own:Own):Sub w own w own:=fun _ _ _ h=>h
theorem Sub.trans {w w' w'' :World} {own own' own'' :Own} (h:Sub w own w' own') (k:Sub w' own' w'' own''):Sub w own w'' own'' :=
 fun b o v f=>k b o v (h b o v f)
theorem RepD.mono {w w' :World} {own own' :Own} (s:Sub w own w' own') {v:Value} {x:D} (h:RepD w own v x):RepD w' own' v x:=by
 induction h with
 |bool b=>exact .bool b
 |int k n h=>exact .int k n h
 |str s l h hl=>exact .str s l h hl
 |numsNil k=>exact .numsNil k
 |nums k b o len cap xs hl hc hm h hw=>exact .nums k b o len cap xs hl hc hm (fun i x hx=>s _ _ _ (h i x hx)) hw
 |slNil sz=>exact .slNil sz
 |numsE k a cap hm=>exact .numsE k a cap hm
 |slE sz a cap hm=>exact .slE sz a cap hm
 |sl sz b o len cap xs val hl hc hm hs h hr ih=>exact .sl sz b o len cap xs val hl hc hm hs (fun i r c x h1 h2=>s _ _ _ (h i r c x h1 h2)) ih
 |agg arr cs hs h1 hr ih=>exact .agg arr cs hs h1 ih
 |ifc t v x h ih=>exact .ifc t v x ih
 |nilifc=>exact .nilifc
 |fp b o cs val h hr ih=>exact .fp b o cs val (fun j x hx=>s _ _ _ (h j x hx)) ih
 |nilptr=>exact .nilptr
 |nilfn=>exact .nilfn
 |rt b o=>exact .rt b o
def RepC (w:World) (own:Own) (b o:Nat) (cs:List D):Prop:= ∀(j:Nat) (x:D),cs[j]? =some x→ ∃v,Fc w own b (o+j) v∧RepD w own v x
inductive RepV (w : World) (own : Own) (β : Nat → Option Nat) : Value → V → Prop
 |any (v:Value):RepV w own β v .any
 |skip:RepV w own β undef .skip
 |d (v:Value) (x:D) (h:RepD w own v x):RepV w own β v (.d x)
 |ptr (i off b:Nat) (hβ:β i=some b):RepV w own β (.pointer (some ⟨b,off,none⟩)) (.ptr i off)
 |mu (i off len cap sz b:Nat) (a:Addr) (hβ:β i=some b) (hs:a.spot=none) (hc:len≤cap) (hm:cap≤maxLen) (ha:cap≠0→a=⟨b,off,none⟩)
   (hb:cap≠0→ ∃arr e,w.heap[b]? =some (.cells arr e (0,0))∧off+cap*sz≤arr.size):RepV w own β (.slice (some a) len cap) (.mu i off len cap sz)
 |gp (g off:Nat):RepV w own β (.pointer (some ⟨g,off,none⟩)) (.gp g off)
 |fn (f:FuncId) (arr:Array Value) (cs:List V) (hs:arr.size=cs.length)
   (hr: ∀(j:Nat) (x:V),cs[j]? =some x→RepV w own β (arr.getD j undef) x):RepV w own β (.func (.func f) #[] arr) (.fn f cs)
 |agg (arr:Array Value) (cs:List V) (hs:arr.size=cs.length) (h1: ∀(j:Nat),j<arr.size→(arr.getD j undef).oneCell' =true)
   (hr: ∀(j:Nat) (x:V),cs[j]? =some x→RepV w own β (arr.getD j undef) x):RepV w own β (.agg arr) (.agg cs)
 |tup (arr:Array Value) (cs:List V) (hs:arr.size=cs.length)
   (hr: ∀(j:Nat) (x:V),cs[j]? =some x→RepV w own β (arr.getD j undef) x):RepV w own β (.tuple arr) (.tup cs)
def Wide (w w' :World):Prop:= ∀(b:Nat) (arr:Array Value) (e:TypeId),w.heap[b]? =some (.cells arr e (0,0))→ ∃arr' :Array Value,w'.heap[b]? =some (.cells arr' e (0,0))∧arr'.size=arr.size
theorem Wide.refl (w:World):Wide w w:=fun _ arr _ h=>⟨arr,h,rfl⟩
theorem Wide.trans {w w' w'' :World} (h:Wide w w') (k:Wide w' w''):Wide w w'' :=fun b arr e hb=>by
 obtain⟨arr',h1,h2⟩:=h b arr e hb
 obtain⟨arr'',h3,h4⟩:=k b arr' e h1
 exact⟨arr'',h3,h4.trans h2⟩
theorem RepV.mono {w w' :World} {own own' :Own} {β β' :Nat→Option Nat} (s:Sub w own w' own') (hw:Wide w w') (hβ: ∀i b,β i=some b→β' i=some b)
  {v:Value} {x:V} (h:RepV w own β v x):RepV w' own' β' v x:=by
 induction h with
 |any v=>exact .any v
 |skip=>exact .skip
 |d v x h=>exact .d v x (h.mono s)
 |ptr i off b h=>exact .ptr i off b (hβ i b h)
 |mu i off len cap sz b a h hs hc hm ha hb=>
  refine .mu i off len cap sz b a (hβ i b h) hs hc hm ha (fun h0=> ?_)
  obtain⟨arr,e,h1,h2⟩:=hb h0
  obtain⟨arr',h3,h4⟩:=hw _ _ _ h1
  exact⟨arr',e,h3,by omega⟩
 |gp g off=>exact .gp g off
 |fn f arr cs hs hr ih=>exact .fn f arr cs hs ih
 |agg arr cs hs h1 hr ih=>exact .agg arr cs hs h1 ih
 |tup arr cs hs hr ih=>exact .tup arr cs hs ih
inductive BlkRel (w : World) (own : Own) (β : Nat → Option Nat) (i b : Nat) : Blk → Prop
 |cells (fz:Bool) (cs:List V) (arr:Array Value) (e:TypeId) (hh:w.heap[b]? =some (.cells arr e (0,0))) (hs:arr.size=cs.length)
   (h1: ∀(j:Nat),j<arr.size→(arr.getD j undef).oneCell' =true)
   (hr: ∀(j:Nat) (x:V),cs[j]? =some x→RepV w own β (arr.getD j undef) x)
   (ho:own b=if fz then none else some (.bl i,0)):BlkRel w own β i b (.cells fz cs)
 |ints (fz:Bool) (k:IntKind) (xs:List Int) (arr:Array Value) (e:TypeId) (hh:w.heap[b]? =some (.cells arr e (0,0))) (hs:arr.size=xs.length)
   (hr: ∀(j:Nat) (x:Int),xs[j]? =some x→arr.getD j undef= .int k x∧k.wrap x=x)
   (ho:own b=if fz then none else some (.bl i,0)):BlkRel w own β i b (.ints fz k xs)
def szOf:V→Option Nat
 | .d (.nums _ _ _)=>some 1
 | .d (.sl sz _ _)=>some sz
 |_=>none
def Empty0 (v:Value):Prop:=v= .slice none 0 0∨ ∃a,v= .slice (some a) 0 0
theorem empty0 (a:Option Addr):Empty0 (.slice a 0 0):=by
 cases a with
 |none=>exact .inl rfl
 |some a=>exact .inr ⟨a,rfl⟩
def OwnsAt (w:World) (own:Own) (p:Pl) (v:Value) (x:V):Prop:= ∀sz,szOf x=some sz→
 Empty0 v∨ ∃b o len cap,v= .slice (some ⟨b,o,none⟩) len cap∧
  (len=cap∨(o=0∧own b=some (.pl p,len*sz)∧ ∃arr e,w.heap[b]? =some (.cells arr e (0,0))∧arr.size=cap*sz))
def ValAt (st:St) (a:Act) (w:World) (β:Nat→Option Nat):Pl→V→Value→Prop
 | .t t,x,v=>look t st.tmps=some x∧v=a.tmps.getD t undef
 | .c t j,x,v=> ∃vs arr,look t st.tmps=some (.tup vs)∧vs[j]? =some x∧a.tmps.getD t undef= .tuple arr∧v=arr.getD j undef
 | .b i j,x,v=> ∃fz cs b,getB st i=some (.cells fz cs)∧cs[j]? =some x∧β i=some b∧w.cell? ⟨b,j,none⟩=some v
structure Rel (C : Ctx) (st : St) (a : Act) (w : World) (own : Own) (β : Nat → Option Nat) : Prop where
 defers:a.defers=[]
 tmps: ∀t x,look t st.tmps=some x→RepV w own β (a.tmps.getD t undef) x
 blocks: ∀i B,getB st i=some B→ ∃b,β i=some b∧BlkRel w own β i b B
 fresh: ∀i,st.blocks.length≤i→β i=none
 gone: ∀i,i<st.blocks.length→getB st i=none→β i=none
 owns: ∀p,hasPl p st.owns=true→ ∀x v,ValAt st a w β p x v→OwnsAt w own p v x
 ob: ∀i j,hasPl (.b i j) st.owns=true→ ∃B,getB st i=some B
 plain: ∀b r,own b=some r→ ∃arr e,w.heap[b]? =some (.cells arr e (0,0))
 glob: ∀g cs,C.glob g=some cs→RepC w own g 0 cs
structure Ext (w : World) (own : Own) (w' : World) (own' : Own) : Prop where
 os:w'.os=w.os
 tape:w'.tape=w.tape
 output:w'.output=w.output
 size:w.heap.size≤w'.heap.size
 free: ∀b,b<w.heap.size→own b=none→w'.heap[b]? =w.heap[b]? ∧own' b=none
 part: ∀b ow n,b<w.heap.size→own b=some (ow,n)→(∀o,o<n→w'.cell? ⟨b,o,none⟩=w.cell? ⟨b,o,none⟩)∧(∀ow' n',own' b=some (ow',n')→n≤n')
 wide:Wide w w'
 far: ∀b n,own b=some (.far,n)→w'.heap[b]? =w.heap[b]? ∧own' b=some (.far,n)
theorem Ext.refl (w:World) (own:Own):Ext w own w own:=
 ⟨rfl,rfl,rfl,Nat.le_refl _,fun _ _ h=>⟨rfl,h⟩,fun _ _ _ _ h=>⟨fun _ _=>rfl,fun _ _ h' =>by rw[h] at h';cases h';exact Nat.le_refl _⟩,Wide.refl w,fun _ _ h=>⟨rfl,h⟩⟩
theorem cell_of_heap {w w' :World} {b:Nat} (h:w'.heap[b]? =w.heap[b]?) (o:Nat):w'.cell? ⟨b,o,none⟩=w.cell? ⟨b,o,none⟩:=by
 simp only[World.cell?,h]
theorem Ext.trans {w w' w'' :World} {own own' own'' :Own} (h:Ext w own w' own') (k:Ext w' own' w'' own''):Ext w own w'' own'' where
 os:=k.os.trans h.os
 tape:=k.tape.trans h.tape
 output:=k.output.trans h.output
 size:=Nat.le_trans h.size k.size
 free b hb ho:=by
  obtain⟨h1,h2⟩:=h.free b hb ho
  obtain⟨k1,k2⟩:=k.free b (Nat.lt_of_lt_of_le hb h.size) h2
  exact⟨k1.trans h1,k2⟩
 part b ow n hb ho:=by
  obtain⟨h1,h2⟩:=h.part b ow n hb ho
  have hb' :=Nat.lt_of_lt_of_le hb h.size
  cases ho' :own' b with
  |none=>
   obtain⟨k1,k2⟩:=k.free b hb' ho'
   exact⟨fun o hl=>(cell_of_heap k1 o).trans (h1 o hl),fun ow' n' h3=>by rw[k2] at h3;cases h3⟩
  |some r=>
   obtain⟨ow',n'⟩:=r
   have hn:=h2 ow' n' ho'
   obtain⟨k1,k2⟩:=k.part b ow' n' hb' ho'
   exact⟨fun o hl=>(k1 o (Nat.lt_of_lt_of_le hl hn)).trans (h1 o hl),fun ow'' n'' h3=>Nat.le_trans hn (k2 ow'' n'' h3)⟩
 wide:=h.wide.trans k.wide
 far b n ho:=by
  obtain⟨h1,h2⟩:=h.far b n ho
  obtain⟨k1,k2⟩:=k.far b n h2
  exact⟨k1.trans h1,k2⟩
theorem Ext.sub {w w' :World} {own own' :Own} (h:Ext w own w' own'):Sub w own w' own' :=by
 intro b o v f
 have hb:b<w.heap.size:=World.block_lt_of_cell? w _ f.cell
 cases ho:own b with
 |none=>
  obtain⟨h1,h2⟩:=h.free b hb ho
  exact⟨(cell_of_heap h1 o).trans f.cell,fun ow n h3=>(by rw[h2] at h3;cases h3),f.one⟩
 |some r=>
  obtain⟨ow,n⟩:=r
  obtain⟨h1,h2⟩:=h.part b ow n hb ho
  have hl:=f.ok ow n ho
  exact⟨(h1 o hl).trans f.cell,fun ow' n' h3=>Nat.lt_of_lt_of_le hl (h2 ow' n' h3),f.one⟩
theorem nbeq_false {s t:Nat} (h:s≠t):Nat.beq s t=false:=by
 cases h' :Nat.beq s t with
 |false=>rfl
 |true=>exact absurd (Nat.eq_of_beq_eq_true h') h
theorem look_ins_same (t:Nat) (v:V): ∀l,look t (ins t v l)=some v
 |[]=>by simp[ins,look]
 |(u,x)::l=>by
  simp only[ins]
  cases h:Nat.blt t u with
  |true=>simp[look]
  |false=>
   cases h2:Nat.beq t u with
   |true=>simp[look]
   |false=>simp[look,h2,look_ins_same t v l]
theorem look_ins_other {s t:Nat} (hne:s≠t) (v:V): ∀l,look s (ins t v l)=look s l
 |[]=>by
  have:Nat.beq s t=false:=nbeq_false hne
  simp[ins,look,this]
 |(u,x)::l=>by
  have h0:Nat.beq s t=false:=nbeq_false hne
  simp only[ins]
  cases h:Nat.blt t u with
  |true=>simp[look,h0]
  |false=>
   cases h2:Nat.beq t u with
   |true=>
    have:t=u:=Nat.eq_of_beq_eq_true h2
    subst this
    simp[look,h0]
   |false=>
    simp only[cond_false,look]
    rw[look_ins_other hne v l]
theorem Pl.beq_iff {p q:Pl}:Pl.beq p q=true↔p=q:=by
 cases p<;>cases q<;>simp[Pl.beq]
theorem hasPl_iff {p:Pl}: ∀ {l:List Pl},hasPl p l=true↔p∈l
 |[]=>by simp[hasPl]
 |q::l=>by
  simp only[hasPl,List.mem_cons]
  cases h:Pl.beq p q with
  |true=>simp[Pl.beq_iff.1 h]
  |false=>
   have hne:p≠q:=fun e=>by rw[Pl.beq_iff.2 e] at h;cases h
   simp[hne,hasPl_iff (l:=l)]
theorem mem_dropPl {f:Pl→Bool} {p:Pl}: ∀ {l:List Pl},p∈dropPl f l↔p∈l∧f p=false
 |[]=>by simp[dropPl]
 |q::l=>by
  simp only[dropPl]
  cases h:f q with
  |true=>
   simp only[cond_true,List.mem_cons,mem_dropPl (l:=l)]
   constructor
   ·rintro ⟨h1,h2⟩;exact⟨.inr h1,h2⟩
   ·rintro ⟨rfl|h1,h2⟩
    ·rw[h] at h2;cases h2
    ·exact⟨h1,h2⟩
  |false=>
   simp only[cond_false,List.mem_cons,mem_dropPl (l:=l)]
   constructor
   ·rintro (rfl|⟨h1,h2⟩)
    ·exact⟨.inl rfl,h⟩
    ·exact⟨.inr h1,h2⟩
   ·rintro ⟨rfl|h1,h2⟩
    ·exact .inl rfl
    ·exact .inr ⟨h1,h2⟩
theorem hasPl_drop {f:Pl→Bool} {p:Pl} {l:List Pl} (h:hasPl p (dropPl f l)=true):hasPl p l=true∧f p=false:=by
 have:=mem_dropPl.1 (hasPl_iff.1 h)
 exact⟨hasPl_iff.2 this.1,this.2⟩
theorem getD_set_same (a:Array Value) (t:Nat) (v:Value) (h:t<a.size):(a.setIfInBounds t v).getD t undef=v:=by
 simp[Array.getD,h]
theorem getD_set_other (a:Array Value) {s t:Nat} (v:Value) (h:s≠t):(a.setIfInBounds t v).getD s undef=a.getD s undef:=by
 simp only[Array.getD,Array.size_setIfInBounds]
 split
 ·simp only[Array.getInternal_eq_getElem]
  rw[Array.getElem_setIfInBounds_ne _ (fun e=>h e.symm)]
 ·rfl
end Go.VM
set_option linter.unusedSimpArgs false
set_option linter.unusedVariables false
namespace Go.VM
open Go
variable {C : Ctx} {st : St} {a : Act} {w : World} {own : Own} {β : Nat → Option Nat}
theorem tmps_put_some (a:Act) (t:Nat) (v:Value):(a.put (some t) v).tmps=a.tmps.setIfInBounds t v:=rfl
theorem size_put (a:Act) (d:Option Nat) (v:Value):(a.put d v).tmps.size=a.tmps.size:=by
 cases d<;>simp[Act.put]
theorem getB_put (st:St) (d:Option Nat) (x:V) (i:Nat):getB (st.put d x) i=getB st i:=by
 cases d<;>rfl
theorem blocks_put (st:St) (d:Option Nat) (x:V):(st.put d x).blocks=st.blocks:=by
 cases d<;>rfl
theorem Rel.put (R:Rel C st a w own β) {d:Option Nat} {x:V} {v:Value} (hd: ∀t,d=some t→t<a.tmps.size) (hv:RepV w own β v x):
  Rel C (st.put d x) (a.put d v) w own β:=by
 cases d with
 |none=>exact R
 |some t=>
  have ht:=hd t rfl
  refine⟨R.defers, ?_,R.blocks,R.fresh,R.gone, ?_,fun i j h=>R.ob i j (hasPl_drop h).1,R.plain,R.glob⟩
  ·intro s y hs
   by_cases e:s=t
   ·subst e
    simp only[St.put,look_ins_same,Option.some.injEq] at hs
    subst hs
    rw[tmps_put_some,getD_set_same _ _ _ ht];exact hv
   ·simp only[St.put,look_ins_other e] at hs
    rw[tmps_put_some,getD_set_other _ _ e];exact R.tmps s y hs
  ·intro p hp y u hy
   simp only[St.put] at hp
   obtain⟨h1,h2⟩:=hasPl_drop hp
   refine R.owns p h1 y u ?_
   cases p with
   |t s=>
    have e:s≠t:=fun e=>by simp[Pl.ofTmp,e] at h2
    obtain⟨h3,h4⟩:=hy
    simp only[St.put,look_ins_other e] at h3
    exact⟨h3,by rw[h4,tmps_put_some,getD_set_other _ _ e]⟩
   |c s j=>
    have e:s≠t:=fun e=>by simp[Pl.ofTmp,e] at h2
    obtain⟨vs,arr,h3,h4,h5,h6⟩:=hy
    simp only[St.put,look_ins_other e] at h3
    rw[tmps_put_some,getD_set_other _ _ e] at h5
    exact⟨vs,arr,h3,h4,h5,h6⟩
   |b i j=>exact hy
theorem Rel.disown (R:Rel C st a w own β) (f:Pl→Bool):Rel C (st.disown f) a w own β:=
 ⟨R.defers,R.tmps,R.blocks,R.fresh,R.gone,fun p hp x v h=>R.owns p (hasPl_drop hp).1 x v (by cases p<;>exact h),fun i j h=>R.ob i j (hasPl_drop h).1,R.plain,R.glob⟩
def relabel (f:Pl→Pl) (own:Own):Own:=fun b=>match own b with
 |some (.pl r,n)=>some (.pl (f r),n)
 |x=>x
theorem okc_relabel {f:Pl→Pl} {own:Own} {b o:Nat}:okc (relabel f own) b o↔okc own b o:=by
 unfold okc relabel
 cases h:own b with
 |none=>simp
 |some r=>
  obtain⟨ow,n⟩:=r
  cases ow<;>simp
theorem fc_relabel {f:Pl→Pl} {b o:Nat} {v:Value}:Fc w (relabel f own) b o v↔Fc w own b o v:=
 ⟨fun h=>⟨h.cell,okc_relabel.1 h.ok,h.one⟩,fun h=>⟨h.cell,okc_relabel.2 h.ok,h.one⟩⟩
theorem sub_relabel (f:Pl→Pl):Sub w own w (relabel f own):=fun _ _ _ h=>fc_relabel.2 h
theorem ext_relabel (f:Pl→Pl):Ext w own w (relabel f own) where
 os:=rfl
 tape:=rfl
 output:=rfl
 size:=Nat.le_refl _
 free b _ h:=⟨rfl,by simp[relabel,h]⟩
 part b ow n _ h:=⟨fun _ _=>rfl,fun ow' n' h' =>by
  simp only[relabel,h] at h'
  cases ow<;>simp at h' <;>omega⟩
 wide:=Wide.refl w
 far b n h:=⟨rfl,by simp[relabel,h]⟩
theorem relabel_bl {f:Pl→Pl} {own:Own} {b i n:Nat}:relabel f own b=some (.bl i,n)↔own b=some (.bl i,n):=by
 unfold relabel
 cases h:own b with
 |none=>simp
 |some r=>
  obtain⟨ow,m⟩:=r
  cases ow<;>simp
theorem relabel_none {f:Pl→Pl} {own:Own} {b:Nat}:relabel f own b=none↔own b=none:=by
 unfold relabel
 cases h:own b with
 |none=>simp
 |some r=>
  obtain⟨ow,m⟩:=r
  cases ow<;>simp
theorem BlkRel.mono {w' :World} {own' :Own} {β' :Nat→Option Nat} {i b:Nat} {B:Blk} (s:Sub w own w' own') (hw:Wide w w') (hβ: ∀i b,β i=some b→β' i=some b)
  (hh:w'.heap[b]? =w.heap[b]?) (ho:own' b=own b) (h:BlkRel w own β i b B):BlkRel w' own' β' i b B:=by
 cases h with
 |cells fz cs arr e h1 h2 h3 h4 h5=>exact .cells fz cs arr e (hh.trans h1) h2 h3 (fun j x hx=>(h4 j x hx).mono s hw hβ) (ho.trans h5)
 |ints fz k xs arr e h1 h2 h3 h4=>exact .ints fz k xs arr e (hh.trans h1) h2 h3 (ho.trans h4)
theorem BlkRel.relabel {f:Pl→Pl} {i b:Nat} {B:Blk} (h:BlkRel w own β i b B):BlkRel w (relabel f own) β i b B:=by
 cases h with
 |cells fz cs arr e h1 h2 h3 h4 h5=>
  refine .cells fz cs arr e h1 h2 h3 (fun j x hx=>(h4 j x hx).mono (sub_relabel f) (Wide.refl w) (fun _ _ h=>h)) ?_
  cases fz with
  |true=>simp only[if_true] at h5⊢;exact relabel_none.2 h5
  |false=>exact relabel_bl.2 h5
 |ints fz k xs arr e h1 h2 h3 h5=>
  refine .ints fz k xs arr e h1 h2 h3 ?_
  cases fz with
  |true=>simp only[if_true] at h5⊢;exact relabel_none.2 h5
  |false=>exact relabel_bl.2 h5
theorem RepC.mono {w' :World} {own' :Own} {b o:Nat} {cs:List D} (s:Sub w own w' own') (h:RepC w own b o cs):RepC w' own' b o cs:=
 fun j x hx=>let ⟨v,h1,h2⟩:=h j x hx;⟨v,s _ _ _ h1,h2.mono s⟩
theorem Rel.giveF (R:Rel C st a w own β) (f:Pl→Pl) (l:List Pl)
  (hl: ∀q,hasPl q l=true→ ∃p,hasPl p st.owns=true∧f p=q∧ ∀x v,ValAt st a w β q x v→ValAt st a w β p x v)
  (hq: ∀i j,hasPl (.b i j) l=true→ ∃B,getB st i=some B):
  Rel C {st with owns:=l} a w (relabel f own) β:=by
 refine⟨R.defers, ?_, ?_,R.fresh,R.gone, ?_,hq, ?_, ?_⟩
 ·exact fun t x h=>(R.tmps t x h).mono (sub_relabel f) (Wide.refl w) (fun _ _ h=>h)
 ·exact fun i B h=>let ⟨b,h1,h2⟩:=R.blocks i B h;⟨b,h1,h2.relabel⟩
 ·intro q hq x v hv
  have hv' :ValAt st a w β q x v:=by cases q<;>exact hv
  obtain⟨p,hp,hf,hpq⟩:=hl q hq
  intro sz hsz
  rcases R.owns p hp x v (hpq x v hv') sz hsz with h0|⟨b,o,len,cap,h1,h2⟩
  ·exact .inl h0
  ·refine .inr ⟨b,o,len,cap,h1, ?_⟩
   rcases h2 with h2|⟨h2,h3,h4⟩
   ·exact .inl h2
   ·exact .inr ⟨h2,by simp[VM.relabel,h3,hf],h4⟩
 ·intro b r h
  cases ho:own b with
  |none=>rw[relabel_none.2 ho] at h;cases h
  |some r' =>exact R.plain b r' ho
 ·exact fun g cs h=>(R.glob g cs h).mono (sub_relabel f)
theorem Rel.give (R:Rel C st a w own β) {p q:Pl} (hpq:hasPl p st.owns=true→ ∀x v,ValAt st a w β q x v→ValAt st a w β p x v)
  (hq: ∀i j,q= .b i j→ ∃B,getB st i=some B):
  ∃own',Rel C (st.give p q) a w own' β∧Ext w own w own' :=by
 unfold St.give
 cases hp:hasPl p st.owns with
 |false=>exact⟨own,R,Ext.refl w own⟩
 |true=>
  refine⟨relabel (fun r=>if r=p then q else r) own, ?_,ext_relabel _⟩
  refine R.giveF _ _ (fun r hr=> ?_) (fun i j hr=> ?_)
  ·simp only[hasPl] at hr
   by_cases e:r=q
   ·subst e;exact⟨p,hp,by simp,hpq hp⟩
   ·have hne:Pl.beq r q=false:=by
     cases h:Pl.beq r q with
     |false=>rfl
     |true=>exact absurd (Pl.beq_iff.1 h) e
    rw[hne] at hr
    obtain⟨h1,h2⟩:=hasPl_drop hr
    have e2:r≠p:=fun e2=>by
     rw[e2,show Pl.beq p p=true from Pl.beq_iff.2 rfl] at h2;cases h2
    exact⟨r,h1,by simp[e2],fun _ _ h=>h⟩
  ·simp only[hasPl] at hr
   cases e:Pl.beq (.b i j) q with
   |true=>exact hq i j (Pl.beq_iff.1 e).symm
   |false=>rw[e] at hr;exact R.ob i j (hasPl_drop hr).1
theorem Rel.ownTmp (R:Rel C st a w own β) {t:Nat} (h: ∀x,look t st.tmps=some x→OwnsAt w own (.t t) (a.tmps.getD t undef) x):
  Rel C {st with owns:= .t t::st.owns} a w own β:=by
 refine⟨R.defers,R.tmps,R.blocks,R.fresh,R.gone, ?_,fun i j h=>R.ob i j (by simpa[hasPl,Pl.beq] using h),R.plain,R.glob⟩
 intro p hp x v hv
 have hv' :ValAt st a w β p x v:=by cases p<;>exact hv
 simp only[hasPl] at hp
 cases e:Pl.beq p (.t t) with
 |true=>
  have:=Pl.beq_iff.1 e
  subst this
  obtain⟨h1,h2⟩:=hv'
  rw[h2];exact h x h1
 |false=>rw[e] at hp;exact R.owns p hp x v hv'
theorem Rel.ext {w' :World} {own' :Own} (R:Rel C st a w own β) (E:Ext w own w' own')
  (hb: ∀i B b,getB st i=some B→β i=some b→w'.heap[b]? =w.heap[b]? ∧own' b=own b)
  (ho: ∀b p n,own b=some (.pl p,n)→own' b=some (.pl p,n))
  (hp: ∀b r,own' b=some r→ ∃arr e,w'.heap[b]? =some (.cells arr e (0,0))):Rel C st a w' own' β where
 defers:=R.defers
 tmps t x h:=(R.tmps t x h).mono E.sub E.wide (fun _ _ h=>h)
 blocks i B h:=by
  obtain⟨b,h1,h2⟩:=R.blocks i B h
  exact⟨b,h1,h2.mono E.sub E.wide (fun _ _ h=>h) (hb i B b h h1).1 (hb i B b h h1).2⟩
 fresh:=R.fresh
 gone:=R.gone
 owns p hp x v hv:=by
  have hv' :ValAt st a w β p x v:=by
   cases p with
   |t t=>exact hv
   |c t j=>exact hv
   |b i j=>
    obtain⟨fz,cs,b,h1,h2,h3,h4⟩:=hv
    exact⟨fz,cs,b,h1,h2,h3,by rw[←h4];exact(cell_of_heap (hb i _ b h1 h3).1 j).symm⟩
  intro sz hsz
  rcases R.owns p hp x v hv' sz hsz with h0|⟨b,o,len,cap,h1,h2⟩
  ·exact .inl h0
  ·refine .inr ⟨b,o,len,cap,h1, ?_⟩
   rcases h2 with h2|⟨h2,h3,arr,e,h4,h5⟩
   ·exact .inl h2
   ·obtain⟨arr',h6,h7⟩:=E.wide b arr e h4
    exact .inr ⟨h2,ho _ _ _ h3,arr',e,h6,h7.trans h5⟩
 ob:=R.ob
 plain:=hp
 glob g cs h:=(R.glob g cs h).mono E.sub
theorem heap_alloc_old (w:World) (o:Obj) {b:Nat} (h:b<w.heap.size):(w.alloc o).heap[b]? =w.heap[b]? :=by
 show (w.heap.push o)[b]? =_
 rw[Array.getElem?_push,if_neg (by omega)]
theorem heap_alloc_new (w:World) (o:Obj):(w.alloc o).heap[w.heap.size]? =some o:=by
 show (w.heap.push o)[w.heap.size]? =_
 simp
def Own.set (own:Own) (b:Nat) (r:Option (Ow×Nat)):Own:=fun c=>if c=b then r else own c
theorem lt_of_heap {w:World} {b:Nat} {o:Obj} (h:w.heap[b]? =some o):b<w.heap.size:=by
 rcases Nat.lt_or_ge b w.heap.size with h' |h'
 ·exact h'
 ·rw[Array.getElem?_eq_none h'] at h;cases h
theorem wide_alloc (w:World) (o:Obj):Wide w (w.alloc o):=fun b arr _ h=>⟨arr,by rw[heap_alloc_old w o (lt_of_heap h)];exact h,rfl⟩
theorem ext_alloc (w:World) (own:Own) (o:Obj) (r:Option (Ow×Nat)) (hp: ∀b s,own b=some s→b<w.heap.size):Ext w own (w.alloc o) (own.set w.heap.size r) where
 os:=rfl
 tape:=rfl
 output:=rfl
 size:=by simp
 free b hb h:=⟨heap_alloc_old w o hb,by simp[Own.set,Nat.ne_of_lt hb,h]⟩
 part b ow n hb h:=⟨fun p _=>cell_of_heap (heap_alloc_old w o hb) p,fun ow' n' h' =>by
  simp[Own.set,Nat.ne_of_lt hb,h] at h';omega⟩
 wide:=wide_alloc w o
 far b n h:=⟨heap_alloc_old w o (hp b _ h),by simp[Own.set,Nat.ne_of_lt (hp b _ h),h]⟩
theorem ext_drew (w:World) (own:Own):Ext w own w.drew own:=
 ⟨rfl,rfl,rfl,Nat.le_refl _,fun _ _ h=>⟨rfl,h⟩,fun _ _ _ _ h=>⟨fun _ _=>rfl,fun _ _ h' =>by rw[h] at h';cases h';exact Nat.le_refl _⟩,Wide.refl w,fun _ _ h=>⟨rfl,h⟩⟩
theorem Rel.plain_lt (R:Rel C st a w own β): ∀b s,own b=some s→b<w.heap.size:=fun b s h=>by
 obtain⟨arr,e,h'⟩:=R.plain b s h
 exact lt_of_heap h'
theorem Rel.drew (R:Rel C st a w own β):Rel C st a w.drew own β:=
 R.ext (ext_drew w own) (fun _ _ _ _ _=>⟨rfl,rfl⟩) (fun _ _ _ h=>h) R.plain
theorem BlkRel.lt {i b:Nat} {B:Blk} (h:BlkRel w own β i b B):b<w.heap.size:=by
 cases h with
 |cells _ _ _ _ h=>exact lt_of_heap h
 |ints _ _ _ _ _ h=>exact lt_of_heap h
theorem Rel.β_lt (R:Rel C st a w own β) {i b:Nat} {B:Blk} (h:getB st i=some B) (hb:β i=some b):b<w.heap.size:=by
 obtain⟨b',h1,h2⟩:=R.blocks i B h
 rw[hb] at h1;cases h1;exact h2.lt
theorem Rel.alloc (R:Rel C st a w own β) (arr:Array Value) (e:TypeId) (r:Option (Ow×Nat)):
  Rel C st a (w.alloc (.cells arr e (0,0))) (own.set w.heap.size r) β:=by
 refine R.ext (ext_alloc w own _ r R.plain_lt) (fun i B b h hb=> ?_) (fun b p n h=> ?_) (fun b s h=> ?_)
 ·have:=R.β_lt h hb
  exact⟨heap_alloc_old w _ this,by simp[Own.set,Nat.ne_of_lt this]⟩
 ·have:=lt_of_heap (R.plain b _ h).choose_spec.choose_spec
  simp[Own.set,Nat.ne_of_lt this,h]
 ·by_cases hb:b=w.heap.size
  ·subst hb;exact⟨arr,e,heap_alloc_new w _⟩
  ·simp[Own.set,hb] at h
   obtain⟨arr',e',h'⟩:=R.plain b s h
   exact⟨arr',e',by rw[heap_alloc_old w _ (lt_of_heap h')];exact h'⟩
def setβ (β:Nat→Option Nat) (i b:Nat):Nat→Option Nat:=fun j=>if j=i then some b else β j
theorem le_setβ {i b:Nat} (h:β i=none): ∀j c,β j=some c→setβ β i b j=some c:=by
 intro j c hj
 have:j≠i:=fun e=>by rw[e,h] at hj;cases hj
 simp[setβ,this,hj]
def SlotOk (st:St):Option Nat→Prop
 |none=>True
 |some i=>i<st.blocks.length∧getB st i=none
theorem getB_new (st:St) (slot:Option Nat) (B:Blk) (hs:SlotOk st slot) (j:Nat):
  getB (st.new slot B).2 j=if j=(st.new slot B).1 then some B else getB st j:=by
 cases slot with
 |none=>
  simp only[St.new,getB]
  rw[List.getElem?_append]
  by_cases e:j=st.blocks.length
  ·subst e;simp
  ·simp only[e,if_false]
   by_cases hl:j<st.blocks.length
   ·simp[hl]
   ·simp only[hl,if_false]
    have h1:([some B]:List (Option Blk))[j-st.blocks.length]? =none:=by
     rw[List.getElem?_eq_none];simp;omega
    rw[h1,List.getElem?_eq_none (by omega)]
 |some i=>
  simp only[St.new,getB,List.getElem?_set]
  by_cases e:i=j
  ·subst e
   have:=hs.1
   simp[this]
  ·have e' : ¬j=i:=fun h=>e h.symm
   simp[e,e']
theorem length_new (st:St) (slot:Option Nat) (B:Blk):(st.new slot B).2.blocks.length=st.blocks.length+(if slot=none then 1 else 0):=by
 cases slot<;>simp[St.new]
theorem Rel.slotNone (R:Rel C st a w own β) {slot:Option Nat} (hs:SlotOk st slot) (B:Blk):β (st.new slot B).1=none:=by
 cases slot with
 |none=>exact R.fresh _ (Nat.le_refl _)
 |some i=>exact R.gone i hs.1 hs.2
theorem Rel.newB (R:Rel C st a w own β) {slot:Option Nat} (hs:SlotOk st slot) {B:Blk} {arr:Array Value} {e:TypeId}
  (hB: ∀own' β',(∀i b,β i=some b→β' i=some b)→Sub w own (w.alloc (.cells arr e (0,0))) own' →own' w.heap.size=some (.bl (st.new slot B).1,0)→
   BlkRel (w.alloc (.cells arr e (0,0))) own' β' (st.new slot B).1 w.heap.size B):
  Rel C (st.new slot B).2 a (w.alloc (.cells arr e (0,0))) (own.set w.heap.size (some (.bl (st.new slot B).1,0))) (setβ β (st.new slot B).1 w.heap.size):=by
 have hn:=R.slotNone hs B
 have R1:=R.alloc arr e (some (.bl (st.new slot B).1,0))
 have hle:=le_setβ (b:=w.heap.size) hn
 have hg:=getB_new st slot B hs
 have htm:(st.new slot B).2.tmps=st.tmps:=by cases slot<;>rfl
 have how:(st.new slot B).2.owns=st.owns:=by cases slot<;>rfl
 refine⟨R1.defers, ?_, ?_, ?_, ?_, ?_, ?_,R1.plain,R1.glob⟩
 ·intro t x h
  rw[htm] at h
  exact(R1.tmps t x h).mono (Sub.refl _ _) (Wide.refl _) hle
 ·intro i B' h
  rw[hg i] at h
  by_cases ei:i=(st.new slot B).1
  ·rw[if_pos ei] at h
   cases h
   subst ei
   exact⟨w.heap.size,by simp[setβ],hB _ _ hle (ext_alloc w own _ _ R.plain_lt).sub (by simp[Own.set])⟩
  ·rw[if_neg ei] at h
   obtain⟨b,h1,h2⟩:=R1.blocks i B' h
   exact⟨b,hle i b h1,h2.mono (Sub.refl _ _) (Wide.refl _) hle rfl rfl⟩
 ·intro i hi
  have hl:=length_new st slot B
  have hne:i≠(st.new slot B).1:=by
   cases slot with
   |none=>simp only[St.new] at hi⊢;simp at hi;omega
   |some k=>have:=hs.1;simp only[St.new] at hi⊢;simp at hi;omega
  simp only[setβ,hne,if_false]
  exact R.fresh i (by rw[hl] at hi;omega)
 ·intro i hi h
  rw[hg i] at h
  by_cases ei:i=(st.new slot B).1
  ·rw[if_pos ei] at h;cases h
  ·rw[if_neg ei] at h
   simp only[setβ,ei,if_false]
   by_cases hl:i<st.blocks.length
   ·exact R.gone i hl h
   ·exact R.fresh i (by omega)
 ·intro p hp x v hv
  rw[how] at hp
  refine R1.owns p hp x v ?_
  cases p with
  |t t=>rw[ValAt,htm] at hv;exact hv
  |c t j=>rw[ValAt,htm] at hv;exact hv
  |b i j=>
   obtain⟨fz,cs,b,h1,h2,h3,h4⟩:=hv
   rw[hg i] at h1
   by_cases ei:i=(st.new slot B).1
   ·obtain⟨B',hB'⟩:=R.ob i j hp
    obtain⟨b',hb',_⟩:=R.blocks i B' hB'
    rw[ei,hn] at hb';cases hb'
   ·rw[if_neg ei] at h1
    simp only[setβ,ei,if_false] at h3
    exact⟨fz,cs,b,h1,h2,h3,h4⟩
 ·intro i j h
  rw[how] at h
  obtain⟨B',hB'⟩:=R.ob i j h
  rw[hg i]
  by_cases ei:i=(st.new slot B).1
  ·exact⟨B,by simp[ei]⟩
  ·exact⟨B',by simp[ei,hB']⟩
end Go.VM
set_option linter.unusedSimpArgs false
set_option linter.unusedVariables false
namespace Go.VM
open Go
def tkOk:TypeDesc→TK→Bool
 | .bool,.bool=>true
 | .int k,.int k' =>k==k'
 | .string,.str=>true
 | .pointer _,.ptr=>true
 | .slice e,.slice e' =>e==e'
 | .struct fs,.struct gs=>(fs.toList.map fun f=>(f.offset,f.type))==gs && fs.toList.all fun f=>f.name != "_"
 | .array n e,.arr m e' =>n==m && e==e'
 | .interface _,.iface=>true
 | .func _ _ _,.fn=>true
 |_,_=>false
def aggOk:Value→Bool→Bool
 | .agg _,b=>b
 |_,b=> !b
def fieldsOk (P:Program):TypeDesc→Bool
 | .struct fs=>fs.toList.all fun f=>(P.info? f.type).isSome
 |_=>true
def oneOk (i:TI):Bool:=
 match i.k with
 | .int k=>i.size==1 && (match i.zero with|[.int k' n]=>k==k' && n==0|_=>false)
 |_=>true
def tiOk (P:Program) (t:Nat) (i:TI):Bool:=
 match P.info? t,P.underlying t with
 |some info,some d=>info.size==i.size && info.bytes==i.bytes && tkOk d i.k && info.comparable==i.cmp && oneOk i &&
   (match info.zero with
   |some z=>zcells z.cells.toList i.zero && aggOk z i.isAgg && i.zero.length==i.size && fieldsOk P d
   |none=>false)
 |_,_=>false
structure TOk (P : Program) (tt : Nat → Option TI) : Prop where
 row: ∀t i,tt t=some i→tiOk P t i=true
 agg: ∀t i,tt t=some i→i.isAgg=true→P.stoodInHeld t=false∧(i.eq=true→P.eqGuardType P.depth t=false)
structure Row (P : Program) (t : Nat) (i : TI) (info : TypeInfo) (d : TypeDesc) (z : Value) : Prop where
 hinfo:P.info? t=some info
 und:P.underlying t=some d
 size:info.size=i.size
 bytes:info.bytes=i.bytes
 tk:tkOk d i.k=true
 cmp:info.comparable=i.cmp
 zero:info.zero=some z
 zc:zcells z.cells.toList i.zero=true
 za:aggOk z i.isAgg=true
 zl:i.zero.length=i.size
 fl:fieldsOk P d=true
 so:oneOk i=true
theorem TOk.get {P:Program} {tt:Nat→Option TI} (T:TOk P tt) {t:Nat} {i:TI} (h:tt t=some i): ∃info d z,Row P t i info d z:=by
 have:=T.row t i h
 unfold tiOk at this
 cases h1:P.info? t with
 |none=>simp[h1] at this
 |some info=>
  cases h2:P.underlying t with
  |none=>simp[h1,h2] at this
  |some d=>
   cases h3:info.zero with
   |none=>simp[h1,h2,h3] at this
   |some z=>
    simp only[h1,h2,h3,Bool.and_eq_true,beq_iff_eq] at this
    obtain⟨⟨⟨⟨⟨a,b⟩,c⟩,d'⟩,so⟩,⟨⟨e,f⟩,g⟩,l⟩:=this
    exact⟨info,d,z,h1,h2,a,b,c,d',h3,e,f,g,l,so⟩
section
variable {P : Program} {t : Nat} {i : TI} {info : TypeInfo} {d : TypeDesc} {z : Value}
theorem Row.run_und (r:Row P t i info d z) (w:World):(underlying t).run P w= .ok d w:=run_underlying r.und w
theorem Row.run_info (r:Row P t i info d z) (w:World):(typeInfo t).run P w= .ok info w:=by simp[typeInfo,r.hinfo]
theorem Row.run_size (r:Row P t i info d z) (w:World):(sizeOf t).run P w= .ok i.size w:=by simp[sizeOf,r.run_info,r.size]
theorem Row.run_zero (r:Row P t i info d z) (w:World):(zeroValue t).run P w= .ok z w:=by simp[zeroValue,r.run_info,r.zero]
theorem Row.slice {e:Nat} (r:Row P t i info d z) (h:i.k= .slice e):d= .slice e:=by
 have:=r.tk;rw[h] at this;cases d<;>simp[tkOk] at this⊢;exact this
theorem Row.arr {n e:Nat} (r:Row P t i info d z) (h:i.k= .arr n e):d= .array n e:=by
 have:=r.tk;rw[h] at this;cases d<;>simp[tkOk] at this⊢;exact this
theorem Row.int {k:IntKind} (r:Row P t i info d z) (h:i.k= .int k):d= .int k:=by
 have:=r.tk;rw[h] at this;cases d<;>simp[tkOk] at this⊢;exact this
theorem Row.one {k:IntKind} (r:Row P t i info d z) (h:i.k= .int k):i.size=1:=by
 have:=r.so;simp only[oneOk,h,Bool.and_eq_true] at this;simpa using this.1
theorem Row.str (r:Row P t i info d z) (h:i.k= .str):d= .string:=by
 have:=r.tk;rw[h] at this;cases d<;>simp[tkOk] at this⊢
theorem Row.bool (r:Row P t i info d z) (h:i.k= .bool):d= .bool:=by
 have:=r.tk;rw[h] at this;cases d<;>simp[tkOk] at this⊢
theorem Row.struct {gs:List (Nat×Nat)} (r:Row P t i info d z) (h:i.k= .struct gs):
  ∃fs,d= .struct fs∧(fs.toList.map fun f=>(f.offset,f.type))=gs∧ ∀f∈fs.toList,f.name≠ "_" :=by
 have:=r.tk;rw[h] at this;cases d<;>simp[tkOk] at this
 rename_i fs
 refine⟨fs,rfl,this.1,fun f hf=> ?_⟩
 obtain⟨k,hk,e⟩:=List.mem_iff_getElem.1 hf
 have h2:=this.2 k (by simpa using hk)
 rw[←e];simpa using h2
theorem Row.run_isAgg (r:Row P t i info d z) (w:World):(isAgg t).run P w= .ok i.isAgg w:=by
 have h:=r.tk
 simp only[isAgg,Sem.run_bind,r.run_und,Result.andThen_ok]
 unfold TI.isAgg
 cases hk:i.k<;>rw[hk] at h<;>cases d<;>simp[tkOk] at h⊢
end
theorem zcell_sound {v:Value} {x:D} (h:zcell v x=true) (w:World) (own:Own):RepD w own v x∧v.oneCell' =true:=by
 unfold zcell at h
 split at h
 ·simp at h;subst h;exact⟨.bool _,rfl⟩
 ·simp at h;obtain⟨⟨rfl,rfl⟩,h⟩:=h;exact⟨.int _ _ h,rfl⟩
 ·have h0:=Nat.eq_of_beq_eq_true h
  exact⟨.str _ _ (by rename_i s;have:s.data.toList=[]:=List.eq_nil_of_length_eq_zero (by simpa using h0);simp[bytesI,this]) (by simp),rfl⟩
 ·exact⟨.numsNil _,rfl⟩
 ·exact⟨.slNil _,rfl⟩
 ·exact⟨.nilptr,rfl⟩
 ·exact⟨.nilifc,rfl⟩
 ·exact⟨.nilfn,rfl⟩
 ·cases h
theorem zcell_int {v:Value} {k:IntKind} {n:Int} (h:zcell v (.int k n)=true):v= .int k n:=by
 have:=(zcell_sound h default (fun _=>none)).1
 cases this;rfl
theorem Row.zeroInt {P:Program} {t:Nat} {i:TI} {info:TypeInfo} {d:TypeDesc} {z:Value} {k:IntKind} (r:Row P t i info d z) (h:i.k= .int k):z.cells.getD 0 undef= .int k 0:=by
 have h1:=r.so
 simp only[oneOk,h,Bool.and_eq_true] at h1
 have h2:=h1.2
 split at h2
 ·rename_i k' n hz
  rw[Bool.and_eq_true] at h2
  have e1:=eq_of_beq h2.1
  have e2:n=0:=by simpa using h2.2
  subst e1 e2
  have h3:=r.zc
  rw[hz] at h3
  have hl:z.cells.toList≠[]:=fun e=>by rw[e] at h3;simp[zcells] at h3
  obtain⟨v,l,hv⟩:=List.exists_cons_of_ne_nil hl
  rw[hv] at h3
  simp only[zcells,Bool.and_eq_true] at h3
  have h4:=zcell_int h3.1
  have h5:z.cells[0]? =some v:=by rw[←Array.getElem?_toList,hv];rfl
  have hlt:=(Array.getElem?_eq_some_iff.1 h5).1
  rw[Array.getElem?_eq_getElem hlt] at h5
  simp only[Option.some.injEq] at h5
  simp[Array.getD,hlt,h5,h4]
 ·cases h2
theorem zcells_sound: ∀ {vs:List Value} {xs:List D},zcells vs xs=true→ ∀(w:World) (own:Own),vs.length=xs.length∧
  ∀(j:Nat) (x:D),xs[j]? =some x→RepD w own (vs.getD j undef) x∧(vs.getD j undef).oneCell' =true
 |[],[],_,w,own=>⟨rfl,fun j x h=>by simp at h⟩
 |v::vs,x::xs,h,w,own=>by
  simp only[zcells,Bool.and_eq_true] at h
  have ih:=zcells_sound h.2 w own
  refine⟨by simp[ih.1],fun j y hy=> ?_⟩
  cases j with
  |zero=>simp at hy;subst hy;exact zcell_sound h.1 w own
  |succ j=>simpa using ih.2 j y (by simpa using hy)
 |[],_::_,h,_,_=>by simp[zcells] at h
 |_::_,[],h,_,_=>by simp[zcells] at h
theorem getD_toList (arr:Array Value) (j:Nat):arr.toList.getD j undef=arr.getD j undef:=by
 simp[Array.getD,List.getD]
 split<;>simp_all
theorem zagg_sound {cs:Array Value} {xs:List D} (h:zcells cs.toList xs=true) (w:World) (own:Own):RepD w own (.agg cs) (.agg xs):=by
 obtain⟨h1,h2⟩:=zcells_sound h w own
 simp only[getD_toList,Array.length_toList] at h1 h2
 refine .agg cs xs h1 (fun j hj=> ?_) (fun j x hx=>(h2 j x hx).1)
 have:j<xs.length:=by omega
 exact(h2 j xs[j] (by simp[this])).2
variable {C : Ctx} {st : St} {a : Act} {w : World} {own : Own} {β : Nat → Option Nat}
theorem absT_sound {tt:Nat→Option TI} {t:Nat} {v:Value} {x:D} (h:absT tt t v=some x) (w:World) (own:Own):RepD w own v x:=by
 unfold absT at h
 split at h
 ·cases h;exact .bool _
 ·rename_i k n
  cases hw:k.wrap n==n with
  |true=>rw[hw] at h;cases h;exact .int _ _ (by simpa using hw)
  |false=>rw[hw] at h;cases h
 ·rename_i s
  cases hw:Nat.ble s.size 1000000 with
  |true=>
   rw[hw] at h;cases h
   refine .str _ _ rfl ?_
   have:=Nat.le_of_ble_eq_true hw
   simp only[bytesI,List.length_map,Array.length_toList,maxLen]
   have e:s.data.size=s.size:=rfl
   omega
  |false=>rw[hw] at h;cases h
 ·cases h;exact .nilptr
 ·cases h;exact .nilifc
 ·cases h;exact .nilfn
 ·repeat' split at h
  all_goals first|(cases h;done)|(cases h;exact .numsNil _)|(cases h;exact .slNil _)
 ·rename_i cs
  split at h
  ·rename_i i _
   cases hz:zcells cs.toList i.zero with
   |true=>rw[hz] at h;cases h;exact zagg_sound hz w own
   |false=>rw[hz] at h;cases h
  ·cases h
 ·cases h
theorem evO_sound (R:Rel C st a w own β) {t:Nat} {x:Operand} {v:V} (h:evO C st t x=some v):RepV w own β (a.eval x) v:=by
 cases x with
 |tmp u=>exact R.tmps u v h
 |const c=>
  simp only[evO] at h
  split at h
  ·cases h;exact .d _ _ (absT_sound (by assumption) w own)
  ·cases h
 |global g=>cases h;exact .gp g 0
 |func f=>cases h;exact .fn f #[] [] rfl (fun j x h=>by simp at h)
def Next (C:Ctx) (st:St) (w:World) (own:Own) (β:Nat→Option Nat) (N:Nat) (st' :St) (next:Act→World→Prop):Prop:=
 ∀a' w' own' β',Rel C st' a' w' own' β' →Ext w own w' own' →(∀i,i<st.blocks.length→ ∀b,β i=some b→β' i=some b)→a'.tmps.size=N→next a' w'
theorem wp_value {P:Program} {o:Oper} {next:Act→World→Prop} {Q:Exit→Act→World→Prop} {v:Value} {w' :World}
  (h:(execOp a.eval o).run P w= .ok (.value v) w') (k:next (a.put o.dst v) w'):o.wp P a w next Q:=by
 simp only[Oper.wp,h,Oper.upon];exact k
theorem wp_nothing {P:Program} {o:Oper} {next:Act→World→Prop} {Q:Exit→Act→World→Prop} {w' :World}
  (h:(execOp a.eval o).run P w= .ok .skip w') (k:next (a.put o.dst undef) w'):o.wp P a w next Q:=by
 simp only[Oper.wp,h,Oper.upon];exact k
theorem next_put (R:Rel C st a w own β) {next:Act→World→Prop} {dst:Option Nat} (hd: ∀t,dst=some t→t<a.tmps.size) {v:Value} {x:V}
  (hv:RepV w own β v x) (hn:Next C st w own β a.tmps.size (st.put dst x) next):next (a.put dst v) w:=
 hn _ _ _ _ (R.put hd hv) (Ext.refl w own) (fun _ _ _ h=>h) (size_put a dst v)
end Go.VM
set_option linter.unusedSimpArgs false
set_option linter.unusedVariables false
namespace Go.VM
open Go
variable {P : Program} {C : Ctx} {st st' : St} {a : Act} {w : World} {own : Own} {β : Nat → Option Nat}
variable {o : Oper} {next : Act → World → Prop} {Q : Exit → Act → World → Prop}
theorem Next.of {s1:St} {w1:World} {own1:Own} {β1:Nat→Option Nat} (E:Ext w own w1 own1) (hlen:st.blocks.length≤s1.blocks.length)
  (hβ: ∀i,i<st.blocks.length→ ∀b,β i=some b→β1 i=some b) {N:Nat} {s2:St} (h:Next C st w own β N s2 next):Next C s1 w1 own1 β1 N s2 next:=
 fun a' w' own' β' R' E' hβ' hN=>h a' w' own' β' R' (E.trans E') (fun i hi b hb=>hβ' i (Nat.lt_of_lt_of_le hi hlen) b (hβ i hi b hb)) hN
theorem next_pass (R:Rel C st a w own β) (hd: ∀t,o.dst=some t→t<a.tmps.size) {x:Operand} {v:V} {t:Nat} (hx:evO C st t x=some v) (yes:Bool)
  (hn:Next C st w own β a.tmps.size ((st.put o.dst v).pass x o.dst yes) next):next (a.put o.dst (a.eval x)) w:=by
 have R1:=R.put hd (evO_sound R hx)
 unfold St.pass at hn
 split at hn
 ·rename_i s d hdst
  have hdd:=hd d hdst
  obtain⟨own',R2,E2⟩:=R1.give (p:= .t s) (q:= .t d) (by
   intro hp x' v' ⟨h1,h2⟩
   have hsd:s≠d:=by
    intro e
    rw[hdst] at hp
    have:=(hasPl_drop hp).2
    simp[Pl.ofTmp,e] at this
   rw[hdst] at h1 h2⊢
   simp only[St.put,look_ins_same,Option.some.injEq] at h1
   rw[tmps_put_some,getD_set_same _ _ _ hdd] at h2
   subst h1
   refine⟨?_, ?_⟩
   ·simp only[St.put,look_ins_other hsd];exact hx
   ·rw[h2,tmps_put_some,getD_set_other _ _ hsd];rfl) (fun i j h=>by cases h)
  exact hn _ _ _ _ R2 E2 (fun _ _ _ h=>h) (size_put a _ _)
 ·exact hn _ _ _ _ R1 (Ext.refl w own) (fun _ _ _ h=>h) (size_put a _ _)
def mvC (s d:Nat):Pl→Pl
 | .c u j=>if u=s then .c d j else .c u j
 |p=>p
theorem hasPl_giveC {s d:Nat} {q:Pl}: ∀ {l:List Pl},hasPl q (giveC s d l)=true→ ∃p,hasPl p l=true∧mvC s d p=q
 |[],h=>by simp[giveC,hasPl] at h
 |r::l,h=>by
  have key: ∀r',(giveC s d (r::l))=r' ::giveC s d l→mvC s d r=r' →
    ∃p,hasPl p (r::l)=true∧mvC s d p=q:=by
   intro r' e1 e2
   rw[e1] at h
   simp only[hasPl] at h
   cases e:Pl.beq q r' with
   |true=>exact⟨r,by simp[hasPl,show Pl.beq r r=true from Pl.beq_iff.2 rfl],by rw[e2];exact(Pl.beq_iff.1 e).symm⟩
   |false=>
    rw[e] at h
    obtain⟨p,h1,h2⟩:=hasPl_giveC h
    exact⟨p,hasPl_iff.2 (List.mem_cons_of_mem _ (hasPl_iff.1 h1)),h2⟩
  cases r with
  |t u=>exact key _ rfl rfl
  |b u j=>exact key _ rfl rfl
  |c u j=>
   refine key (match Nat.beq u s with|true=> .c d j|false=> .c u j) rfl ?_
   by_cases e:u=s
   ·subst e;simp[mvC]
   ·simp[mvC,e,nbeq_false e]
theorem next_passTup (R:Rel C st a w own β) (hd: ∀t,o.dst=some t→t<a.tmps.size) {x:Operand} {v:V} {t:Nat} (hx:evO C st t x=some v)
  (hn:Next C st w own β a.tmps.size ((st.put o.dst v).passTup x o.dst) next):next (a.put o.dst (a.eval x)) w:=by
 have R1:=R.put hd (evO_sound R hx)
 unfold St.passTup at hn
 split at hn
 ·rename_i s d hdst
  have hdd:=hd d hdst
  rw[hdst] at hn R1⊢
  have R2:=R1.giveF (mvC s d) (giveC s d (st.put (some d) v).owns) (by
   intro q hq
   obtain⟨p,hp,hf⟩:=hasPl_giveC hq
   refine⟨p,hp,hf, ?_⟩
   intro x' v' hv
   cases p with
   |t u=>simp only[mvC] at hf;subst hf;exact hv
   |b u j=>simp only[mvC] at hf;subst hf;exact hv
   |c u j=>
    by_cases e:u=s
    ·subst e
     simp only[mvC,if_true] at hf
     subst hf
     have hsd:u≠d:=by
      intro e
      have:=(hasPl_drop hp).2
      simp[Pl.ofTmp,e] at this
     obtain⟨vs,arr,h1,h2,h3,h4⟩:=hv
     simp only[St.put,look_ins_same,Option.some.injEq] at h1
     rw[tmps_put_some,getD_set_same _ _ _ hdd] at h3
     refine⟨vs,arr, ?_,h2, ?_,h4⟩
     ·simp only[St.put,look_ins_other hsd];rw[←h1];exact hx
     ·rw[tmps_put_some,getD_set_other _ _ hsd];exact h3
    ·simp only[mvC,e,if_false] at hf
     subst hf;exact hv) (by
   intro i j h
   obtain⟨p,hp,hf⟩:=hasPl_giveC h
   cases p with
   |t u=>simp[mvC] at hf
   |b u k=>simp only[mvC,Pl.b.injEq] at hf;rw[←hf.1,←hf.2] at*;exact R1.ob _ _ hp
   |c u k=>by_cases e:u=s<;>simp[mvC,e] at hf)
  exact hn _ _ _ _ R2 (ext_relabel _) (fun _ _ _ h=>h) (size_put a _ _)
 ·exact hn _ _ _ _ R1 (Ext.refl w own) (fun _ _ _ h=>h) (size_put a _ _)
section
variable {v : Value}
theorem inv_d {x:D} (h:RepV w own β v (.d x)):RepD w own v x:=by
 cases h with|d _ _ h=>exact h
theorem inv_int {k:IntKind} {n:Int} (h:RepV w own β v (.d (.int k n))):v= .int k n∧k.wrap n=n:=by
 cases h with|d _ _ h=>cases h with|int _ _ h=>exact⟨rfl,h⟩
theorem inv_bool {b:Bool} (h:RepV w own β v (.d (.bool b))):v= .bool b:=by
 cases h with|d _ _ h=>cases h;rfl
theorem inv_str {l:List Int} (h:RepV w own β v (.d (.str l))): ∃s,v= .string s∧bytesI s=l∧l.length≤maxLen:=by
 cases h with|d _ _ h=>cases h with|str s _ h hl=>exact⟨s,rfl,h,hl⟩
theorem inv_ptr {i off:Nat} (h:RepV w own β v (.ptr i off)): ∃b,β i=some b∧v= .pointer (some ⟨b,off,none⟩):=by
 cases h with|ptr _ _ b h=>exact⟨b,h,rfl⟩
theorem inv_tup {vs:List V} (h:RepV w own β v (.tup vs)): ∃arr,v= .tuple arr∧arr.size=vs.length∧ ∀(j:Nat) (x:V),vs[j]? =some x→RepV w own β (arr.getD j undef) x:=by
 cases h with|tup arr _ hs hr=>exact⟨arr,rfl,hs,hr⟩
theorem inv_fp {cs:List D} (h:RepV w own β v (.d (.fp cs))): ∃b o,v= .pointer (some ⟨b,o,none⟩)∧RepC w own b o cs:=by
 cases h with|d _ _ h=>cases h with|fp b o _ val h hr=>exact⟨b,o,rfl,fun j x hx=>⟨val j,h j x hx,hr j x hx⟩⟩
end
theorem wrap_i64_nat {n:Nat} (h:n≤maxLen):IntKind.i64.wrap (n:Int)=n:=by
 unfold maxLen at h
 simp only[IntKind.wrap,IntKind.signed,IntKind.bits]
 have:(n:Int) % 2^64=n:=Int.emod_eq_of_lt (by omega) (by omega)
 simp only[this]
 split
 ·rename_i h';simp at h';omega
 ·rfl
theorem move_sound (R:Rel C st a w own β) {x:Operand} (hop:o.op= .move x) (hd: ∀t,o.dst=some t→t<a.tmps.size) {slot:Option Nat}
  (h:evOp C slot o st=some st') (hn:Next C st w own β a.tmps.size st' next):o.wp P a w next Q:=by
 simp only[evOp,hop] at h
 have hr:(execOp a.eval o).run P w= .ok (.value (a.eval x)) w:=by simp[execOp,hop]
 split at h
 ·rename_i v hv
  split at h
  ·cases h;exact wp_value hr (next_passTup R hd hv hn)
  ·cases h;exact wp_value hr (next_pass R hd hv _ hn)
 ·cases h
theorem assign_sound (R:Rel C st a w own β) {x:Operand} (hop:o.op= .assign x) (hd: ∀t,o.dst=some t→t<a.tmps.size) {slot:Option Nat}
  (h:evOp C slot o st=some st') (hn:Next C st w own β a.tmps.size st' next):o.wp P a w next Q:=by
 simp only[evOp,hop] at h
 have hr:(execOp a.eval o).run P w= .ok (.value (a.eval x)) w:=by simp[execOp,hop]
 split at h
 ·rename_i v hv
  cases h;exact wp_value hr (next_pass R hd hv _ hn)
 ·cases h
theorem pick_sound (R:Rel C st a w own β) {c x y:Operand} (hop:o.op= .pick c x y) (hd: ∀t,o.dst=some t→t<a.tmps.size) {slot:Option Nat}
  (h:evOp C slot o st=some st') (hn:Next C st w own β a.tmps.size st' next):o.wp P a w next Q:=by
 simp only[evOp,hop] at h
 split at h
 ·rename_i b hb
  have hc:=inv_bool (evO_sound R hb)
  split at h
  ·rename_i v hv
   cases h
   cases b with
   |true=>
    have hr:(execOp a.eval o).run P w= .ok (.value (a.eval x)) w:=by simp[execOp,hop,hc,asBool]
    exact wp_value hr (next_put R hd (evO_sound R hv) hn)
   |false=>
    have hr:(execOp a.eval o).run P w= .ok (.value (a.eval y)) w:=by simp[execOp,hop,hc,asBool]
    exact wp_value hr (next_put R hd (evO_sound R hv) hn)
  ·cases h
 ·cases h
theorem extract_sound (R:Rel C st a w own β) {x:Operand} {j:Nat} (hop:o.op= .extract x j) (hd: ∀t,o.dst=some t→t<a.tmps.size) {slot:Option Nat}
  (h:evOp C slot o st=some st') (hn:Next C st w own β a.tmps.size st' next):o.wp P a w next Q:=by
 simp only[evOp,hop] at h
 split at h
 ·rename_i vs hvs
  obtain⟨arr,ha,hs,hr⟩:=inv_tup (evO_sound R hvs)
  split at h
  ·rename_i v hv
   have hlt:j<arr.size:=by
    rw[hs];exact(List.getElem?_eq_some_iff.1 hv).1
   have hrun:(execOp a.eval o).run P w= .ok (.value (arr.getD j undef)) w:=by
    simp[execOp,hop,Instr.extract,ha,Array.getD,hlt]
   have hval:=hr j v hv
   refine wp_value hrun ?_
   split at h
   ·rename_i s d hdst
    cases h
    have hdd:=hd d hdst
    have R1:=R.put hd hval
    obtain⟨own',R2,E2⟩:=R1.give (p:= .c s j) (q:= .t d) (by
     intro hp x' v' ⟨h1,h2⟩
     have hsd:s≠d:=by
      intro e
      rw[hdst] at hp
      have:=(hasPl_drop hp).2
      simp[Pl.ofTmp,e] at this
     rw[hdst] at h1 h2⊢
     simp only[St.put,look_ins_same,Option.some.injEq] at h1
     rw[tmps_put_some,getD_set_same _ _ _ hdd] at h2
     subst h1
     refine⟨vs,arr, ?_,hv, ?_,h2⟩
     ·simp only[St.put,look_ins_other hsd];exact hvs
     ·rw[tmps_put_some,getD_set_other _ _ hsd];exact ha) (fun i j h=>by cases h)
    exact hn _ _ _ _ R2 E2 (fun _ _ _ h=>h) (size_put a _ _)
   ·cases h;exact next_put R hd hval hn
  ·cases h
 ·cases h
def RepL (w:World) (own:Own) (β:Nat→Option Nat) (arr:Array Value) (cs:List V):Prop:=
 arr.size=cs.length∧(∀(j:Nat),j<arr.size→(arr.getD j undef).oneCell' =true)∧ ∀(j:Nat) (x:V),cs[j]? =some x→RepV w own β (arr.getD j undef) x
theorem one_of_rep {v:Value} {x:D} (h:RepD w own v x) (hx: ∀cs,x≠ .agg cs):v.oneCell' =true:=by
 cases h<;>first|rfl|exact absurd rfl (hx _)
theorem cells_of_one {v:Value} (h:v.oneCell' =true):v.cells= #[v]:=by
 cases v<;>first|rfl|cases h
theorem repL_one {v:Value} {x:V} (h:RepV w own β v x) (h1:v.oneCell' =true):RepL w own β v.cells [x]:=by
 rw[cells_of_one h1]
 refine⟨rfl,fun j hj=> ?_,fun j y hy=> ?_⟩
 ·have:j=0:=by simpa using hj
  subst this;simpa using h1
 ·cases j with
  |zero=>simp at hy;subst hy;simpa using h
  |succ j=>simp at hy
theorem cellsV_sound {v:Value} {x:V} {cs:List V} (h:RepV w own β v x) (hc:cellsV x=some cs):RepL w own β v.cells cs:=by
 unfold cellsV at hc
 split at hc
 ·cases hc
  cases h with|d _ _ h=>cases h with|agg arr ds hs h1 hr=>
   refine⟨by simpa[Value.cells] using hs,h1,fun j y hy=> ?_⟩
   simp only[List.getElem?_map,Option.map_eq_some_iff] at hy
   obtain⟨d,h3,rfl⟩:=hy
   exact .d _ _ (hr j d h3)
 ·cases hc
  cases h with|agg arr _ hs h1 hr=>exact⟨hs,h1,hr⟩
 ·rename_i d hne
  cases hc
  cases h with|d _ _ hd=>
   exact repL_one (.d _ _ hd) (one_of_rep hd (fun cs e=>hne cs e))
 ·cases hc;cases h with|ptr _ _ b hb=>exact repL_one (.ptr _ _ b hb) rfl
 ·cases hc;cases h with|mu _ _ _ _ _ b a hb h0 h1 h2 h3 h4=>exact repL_one (.mu _ _ _ _ _ b a hb h0 h1 h2 h3 h4) rfl
 ·cases hc;cases h;exact repL_one (.gp _ _) rfl
 ·cases hc;cases h with|fn _ arr _ hs hr=>exact repL_one (.fn _ arr _ hs hr) rfl
 ·cases hc
theorem allD_some: ∀ {l:List V} {ds:List D},allD l=some ds→l=ds.map .d
 |[],ds,h=>by simp[allD] at h;subst h;rfl
 |v::l,ds,h=>by
  cases v with
  |d x=>
   simp only[allD] at h
   split at h
   ·rename_i ds' h'
    cases h
    simp[allD_some h']
   ·cases h
  |_=>simp[allD] at h
theorem mkAgg_sound {arr:Array Value} {cs:List V} (h:RepL w own β arr cs):RepV w own β (.agg arr) (mkAgg cs):=by
 unfold mkAgg
 split
 ·rename_i ds hds
  have:=allD_some hds
  subst this
  refine .d _ _ (.agg arr ds (by simpa using h.1) h.2.1 (fun j x hx=> ?_))
  exact inv_d (h.2.2 j (.d x) (by simp[hx]))
 ·exact .agg arr cs h.1 h.2.1 h.2.2
theorem RepL.mono {w' :World} {own' :Own} {β' :Nat→Option Nat} {arr:Array Value} {cs:List V} (s:Sub w own w' own') (hw:Wide w w') (hβ: ∀i b,β i=some b→β' i=some b)
  (h:RepL w own β arr cs):RepL w' own' β' arr cs:=⟨h.1,h.2.1,fun j x hx=>(h.2.2 j x hx).mono s hw hβ⟩
theorem next_new (R:Rel C st a w own β) {slot:Option Nat} (hs:SlotOk st slot) (hd: ∀t,o.dst=some t→t<a.tmps.size) {arr:Array Value} {e:TypeId} {cs:List V}
  (hc:RepL w own β arr cs) {v:V} (hv: ∀own' β',β' (st.new slot (.cells false cs)).1=some w.heap.size→
   RepV (w.alloc (.cells arr e (0,0))) own' β' (.pointer (some ⟨w.heap.size,0,none⟩)) v)
  (hn:Next C st w own β a.tmps.size ((st.new slot (.cells false cs)).2.put o.dst v) next):
  next (a.put o.dst (.pointer (some ⟨w.heap.size,0,none⟩))) (w.alloc (.cells arr e (0,0))):=by
 have R1:=R.newB hs (B:= .cells false cs) (arr:=arr) (e:=e) (fun own' β' hβ hsub ho=>
  .cells false cs arr e (heap_alloc_new w _) hc.1 hc.2.1 (fun j x hx=>(hc.2.2 j x hx).mono hsub (wide_alloc w _) hβ) (by simpa using ho))
 have R2:=R1.put (d:=o.dst) hd (hv _ _ (by simp[setβ]))
 refine hn _ _ _ _ R2 (ext_alloc w own _ _ R.plain_lt) (fun i hi b hb=> ?_) (size_put a _ _)
 exact le_setβ (R.slotNone hs _) i b hb
theorem alloc_sound (T:TOk P C.tt) (R:Rel C st a w own β) {e:TypeId} (hop:o.op= .alloc e) (hd: ∀t,o.dst=some t→t<a.tmps.size) {slot:Option Nat} (hs:SlotOk st slot)
  (h:evOp C slot o st=some st') (hn:Next C st w own β a.tmps.size st' next):o.wp P a w next Q:=by
 simp only[evOp,hop] at h
 split at h
 ·rename_i i hi
  cases h
  obtain⟨info,d,z,r⟩:=T.get hi
  obtain⟨z1,z2⟩:=zcells_sound r.zc w own
  simp only[getD_toList,Array.length_toList] at z1 z2
  have hr:(execOp a.eval o).run P w= .ok (.value (.pointer (some ⟨w.heap.size,0,none⟩))) (w.alloc (.cells z.cells e (0,0))):=by
   simp[execOp,hop,Instr.alloc,r.run_zero,newVar,newRow]
  refine wp_value hr (next_new R hs hd ⟨by simpa using z1,fun j hj=> ?_,fun j x hx=> ?_⟩ (fun own' β' hβ=> .ptr _ _ _ hβ) hn)
  ·have:j<i.zero.length:=by omega
   exact(z2 j i.zero[j] (by simp[this])).2
  ·simp only[List.getElem?_map,Option.map_eq_some_iff] at hx
   obtain⟨d,h3,rfl⟩:=hx
   exact .d _ _ (z2 j d h3).1
 ·cases h
theorem box_sound (R:Rel C st a w own β) {e:TypeId} {x:Operand} (hop:o.op= .box e x) (hd: ∀t,o.dst=some t→t<a.tmps.size) {slot:Option Nat} (hs:SlotOk st slot)
  (h:evOp C slot o st=some st') (hn:Next C st w own β a.tmps.size st' next):o.wp P a w next Q:=by
 simp only[evOp,hop] at h
 split at h
 ·rename_i v hv
  split at h
  ·rename_i cs hcs
   cases h
   have hc:=cellsV_sound (evO_sound R hv) hcs
   have hr:(execOp a.eval o).run P w= .ok (.value (.pointer (some ⟨w.heap.size,0,none⟩))) (w.alloc (.cells (a.eval x).cells e (0,0))):=by
    simp[execOp,hop,Instr.box,newVar,newRow]
   exact wp_value hr (next_new R hs hd hc (fun own' β' hβ=> .ptr _ _ _ hβ) hn)
  ·cases h
 ·cases h
end Go.VM
