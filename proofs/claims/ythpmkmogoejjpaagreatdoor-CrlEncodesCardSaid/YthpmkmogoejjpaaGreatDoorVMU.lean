/- The machine over values: equations for what is done behind a region, and ways that part. -/
import Derived.Test.YthpmkmogoejjpaaGreatDoorVMT
import Derived.Test.YthpmkmogoejjpaaGreatDoorVMR
import Derived.Laws.Externs
import Derived.LaidHandle
import Derived.LaidLaws
import Derived.MapViews
import Derived.Laws.Tables
import Derived.Test.YthpmkmogoejjpaaGreatDoorVMS
set_option linter.unusedSimpArgs false
set_option linter.unusedVariables false
namespace Go.VM
open Go
def nilT (t:Nat) (v:Option V) (os:List Pl):List Pl:=
 match v with
 |some v=>bif isNilD v then .t t::os else os
 |none=>os
def nilB (v:Option V) (bs:List (Option Blk)) (j:Nat) (os:List Pl):List Pl:=
 match v with
 |some (.ptr i off)=>match getO bs i with
  |some (.cells _ cs)=>match cs[off+j]? with
   |some v=>bif isNilD v then .b i (off+j)::os else os
   |none=>os
  |_=>os
 |_=>os
def nilC (i k:Nat) (B:Option Blk) (os:List Pl):List Pl:=
 match B with
 |some (.cells _ cs)=>match cs[k]? with
  |some v=>bif isNilD v then .b i k::os else os
  |none=>os
 |_=>os
def nilV (i k:Nat) (v:Option V) (os:List Pl):List Pl:=
 match v with
 |some v=>bif isNilD v then .b i k::os else os
 |none=>os
theorem nilT_some (t:Nat) (v:V) (os:List Pl):nilT t (some v) os=condE (isNilD v) (.t t::os) os:=(rfl)
theorem nilT_none (t:Nat) (os:List Pl):nilT t none os=os:=(rfl)
theorem nilB_ptr (i off:Nat) (bs:List (Option Blk)) (j:Nat) (os:List Pl):nilB (some (.ptr i off)) bs j os=nilC i (off+j) (getO bs i) os:=(rfl)
theorem nilC_cells (i k:Nat) (fz:Bool) (cs:List V) (os:List Pl):nilC i k (some (.cells fz cs)) os=nilV i k cs[k]? os:=(rfl)
theorem nilV_some (i k:Nat) (v:V) (os:List Pl):nilV i k (some v) os=condE (isNilD v) (.b i k::os) os:=(rfl)
theorem ownNils_nil (st:St):st.ownNils []=st:=(rfl)
theorem ownNils_t (tm:List (Nat×V)) (bs:List (Option Blk)) (os:List Pl) (t:Nat) (l:List (Nat×Option Nat)):
  St.ownNils ⟨tm,bs,os⟩ ((t,none)::l)=St.ownNils ⟨tm,bs,nilT t (look t tm) os⟩ l:=by
 simp only[St.ownNils,nilPl,nilT]
 cases look t tm with
 |none=>rfl
 |some v=>simp only;cases isNilD v<;>rfl
theorem ownNils_b (tm:List (Nat×V)) (bs:List (Option Blk)) (os:List Pl) (t j:Nat) (l:List (Nat×Option Nat)):
  St.ownNils ⟨tm,bs,os⟩ ((t,some j)::l)=St.ownNils ⟨tm,bs,nilB (look t tm) bs j os⟩ l:=by
 simp only[St.ownNils,nilPl,nilB]
 cases look t tm with
 |none=>rfl
 |some v=>
  cases v with
  |ptr i off=>
   simp only[getB_getO]
   cases getO bs i with
   |none=>rfl
   |some B=>
    cases B with
    |ints fz k xs=>rfl
    |cells fz cs=>
     simp only
     cases cs[off+j]? with
     |none=>rfl
     |some v=>simp only;cases isNilD v<;>rfl
  |_=>rfl
theorem close_keep (l:List Nat) (nl:List (Nat×Option Nat)) (st:St):St.close ⟨some l,nl⟩ st=(st.ownNils nl).prune l:=(rfl)
theorem close_none (nl:List (Nat×Option Nat)) (st:St):St.close ⟨none,nl⟩ st=st.ownNils nl:=(rfl)
section
variable {α : Type} (b : Bool)
theorem bindE_condE (x y:Option (Ex×St)) (k:St→Option (Ex×St)):bindE (condE b x y) k=condE b (bindE x k) (bindE y k):=by cases b<;>rfl
theorem bindS_condE (x y:Option St) (k:St→Option α):bindS (condE b x y) k=condE b (bindS x k) (bindS y k):=by cases b<;>rfl
theorem bindV_condE {β:Type} (x y:Option β) (k:β→Option α):bindV (condE b x y) k=condE b (bindV x k) (bindV y k):=by cases b<;>rfl
theorem blockE_condE (id:Nat) (x y:Option (Ex×St)):blockE id (condE b x y)=condE b (blockE id x) (blockE id y):=by cases b<;>rfl
theorem finish_condE (C:Ctx) (rs:List ResultVar) (x y:Option (Ex×St)):finish C rs (condE b x y)=condE b (finish C rs x) (finish C rs y):=by cases b<;>rfl
theorem finishP_condE (C:Ctx) (k:Nat) (rs:List ResultVar) (x y:Option (Ex×St)):finishP C k rs (condE b x y)=condE b (finishP C k rs x) (finishP C k rs y):=by cases b<;>rfl
theorem roundE_condE (k:St→Option (Ex×St)) (out:List Nat) (x y:Option (Ex×St)):roundE k out (condE b x y)=condE b (roundE k out x) (roundE k out y):=by cases b<;>rfl
theorem condE_ite (x y:α):condE b x y=if b=true then x else y:=by cases b<;>rfl
end
theorem condE_elim {α:Type} {b:Bool} {x y r:α} (h1:b=true→x=r) (h0:b=false→y=r):condE b x y=r:=by
 cases b with
 |true=>exact h1 rfl
 |false=>exact h0 rfl
theorem fnsOk_skip {P:Program} {live:Nat→Nat→List Nat} {skip:List Nat}
  (h:((List.range P.funcs.size).all fun f=>match hasNat f skip with|true=>true|false=>(match P.funcs[f]? with|some fn=>okFn (live f) fn|none=>true))=true):
  ∀(f:Nat) (fn:Func),(match hasNat f skip with|true=>none|false=>P.funcs[f]?)=some fn→P.funcs[f]? =some fn∧okFn (live f) fn=true:=by
 intro f fn hf
 cases hs:hasNat f skip with
 |true=>rw[hs] at hf;cases hf
 |false=>
  rw[hs] at hf
  refine⟨hf, ?_⟩
  simp only[List.all_eq_true,List.mem_range] at h
  have:=h f (Array.getElem?_eq_some_iff.1 hf).1
  rw[hs] at this
  simp only at hf this
  rw[hf] at this
  exact this
def capV:V→Option V
 | .d y=>some (.d y)
 | .ptr i o=>some (.ptr i o)
 | .fn f cs=>some (.fn f cs)
 |_=>none
theorem capV_d (y:D):capV (.d y)=some (.d y):=(rfl)
theorem capV_ptr (i o:Nat):capV (.ptr i o)=some (.ptr i o):=(rfl)
theorem capV_fn (f:FuncId) (cs:List V):capV (.fn f cs)=some (.fn f cs):=(rfl)
theorem evCaps_nil (C:Ctx) (st:St):evCaps C st []=some []:=(rfl)
theorem evCaps_cons (C:Ctx) (st:St) (x:Operand) (xs:List Operand):evCaps C st (x::xs)=bindV (evO C st 0 x) fun v=>bindV (capV v) fun u=>bindV (evCaps C st xs) fun us=>some (u::us):=by
 simp only[evCaps]
 unfold bindV
 cases evO C st 0 x with
 |none=>rfl
 |some v=>
  cases v with
  |d y=>simp only[capV];cases evCaps C st xs<;>rfl
  |ptr i o=>simp only[capV];cases evCaps C st xs<;>rfl
  |fn f cs=>simp only[capV];cases evCaps C st xs<;>rfl
  |_=>rfl
theorem op_makeFunc (C:Ctx) (slot:Option Nat) (dst:Option Tmp) (f:FuncId) (caps:Array Operand) (ty:TypeId) (pos:String) (af:Array Edge) (g:Option (Nat×Bool)) (st:St):
  evOp C slot ⟨dst,.makeFunc (.func f) #[] caps,ty,pos,af,g⟩ st=bindV (evCaps C st caps.toList) fun cs=>some (st.put dst (.fn f cs)):=by
 show (match(#[]:Array Operand).size,evCaps C st caps.toList with
  |0,some cs=>some (st.put dst (.fn f cs))
  |_,_=>none)=_
 unfold bindV
 cases evCaps C st caps.toList<;>rfl
attribute [simp] capV_d capV_ptr capV_fn evCaps_nil evCaps_cons op_makeFunc
attribute [simp] nilT_some nilT_none nilB_ptr nilC_cells nilV_some ownNils_nil ownNils_t ownNils_b close_keep close_none
 bindE_condE bindS_condE bindV_condE blockE_condE finish_condE finishP_condE roundE_condE
end Go.VM
set_option linter.unusedSimpArgs false
set_option linter.unusedVariables false
namespace Go.VM
open Go
def cellsB:Blk→Option (List V)
 | .cells _ cs=>some cs
 |_=>none
theorem cellsB_cells (f:Bool) (cs:List V):cellsB (.cells f cs)=some cs:=(rfl)
theorem ofBlk_t (i t:Nat):Pl.ofBlk i (.t t)=false:=(rfl)
theorem ofBlk_c (i t j:Nat):Pl.ofBlk i (.c t j)=false:=(rfl)
theorem ofBlk_b (i k j:Nat):Pl.ofBlk i (.b k j)=Nat.beq i k:=(rfl)
theorem asD_ptr (C:Ctx) (st:St) (i off:Nat):asD C st (.ptr i off)=bindV (getB st i) fun B=>bindV (cellsB B) fun cs=>bindV (allD (cs.drop off)) fun ds=>
  some (D.fp ds,{st with blocks:=st.blocks.set i (some (.cells true cs)),owns:=dropPl (Pl.ofBlk i) st.owns}):=by
 show (match getB st i with
  |some (.cells _ cs)=>match allD (cs.drop off) with
   |some ds=>some (D.fp ds,st.freeze i)
   |none=>none
  |_=>none)=_
 unfold St.freeze
 rcases getB st i with _|B
 ·rfl
 ·cases B with
  |ints f k xs=>rfl
  |cells f cs=>
   simp only[bindV_some,cellsB_cells,idd]
   rcases allD (cs.drop off) with _|ds<;>rfl
theorem oldB_none (n:Nat):oldB n none=none:=(rfl)
theorem nilPtr_ptr (i o:Nat):nilPtr (.ptr i o)=some false:=(rfl)
theorem nilPtr_gp (i o:Nat):nilPtr (.gp i o)=some false:=(rfl)
theorem nilPtr_fp (cs:List D):nilPtr (.d (.fp cs))=some false:=(rfl)
theorem nilPtr_nil:nilPtr (.d .nilptr)=some true:=(rfl)
theorem putRet_0 (l:List (Nat×V)) (bs:List (Option Blk)) (os:List Pl) (d:Nat):St.putRet ⟨l,bs,os⟩ (some d) ⟨[],[]⟩=⟨ins d (.tup []) l,bs,dropPl (Pl.ofTmp d) os⟩:=(rfl)
theorem putRet_no (st:St) (own:List Nat):St.putRet st none ⟨[],own⟩=st:=(rfl)
theorem refsO_const (st:St) (v:Value):refsO st (.const v)=[]:=(rfl)
theorem refsO_func (st:St) (f:FuncId):refsO st (.func f)=[]:=(rfl)
attribute [simp] refsO_const refsO_func putRet_0 putRet_no nilPtr_ptr nilPtr_gp nilPtr_fp nilPtr_nil oldB_none cellsB_cells ofBlk_t ofBlk_c ofBlk_b asD_ptr
end Go.VM
set_option linter.unusedSimpArgs false
set_option linter.unusedVariables false
namespace Go.VM
open Go Go.RowKit
variable {P : Program} {E : Env}
theorem ext_of_below {w w' :World} {own:Own} (h:Below w.heap.size w w') (hp: ∀b s,own b=some s→ ∃arr e,w.heap[b]? =some (.cells arr e (0,0))):Ext w own w' own where
 os:=h.os
 tape:=h.tape
 output:=h.output
 size:=h.size
 free b hb ho:=⟨h.block b hb,ho⟩
 part b ow n hb ho:=⟨fun o _=>cell_of_heap (h.block b hb) o,fun ow' n' h' =>by rw[ho] at h';cases h';exact Nat.le_refl _⟩
 wide b arr e hb:=⟨arr,by
  rw[h.block b (by
   rcases Nat.lt_or_ge b w.heap.size with h1|h1
   ·exact h1
   ·rw[Array.getElem?_eq_none h1] at hb;cases hb)];exact hb,rfl⟩
 far b n ho:=by
  obtain⟨arr,e,hb⟩:=hp b _ ho
  refine⟨h.block b ?_,ho⟩
  rcases Nat.lt_or_ge b w.heap.size with h1|h1
  ·exact h1
  ·rw[Array.getElem?_eq_none h1] at hb;cases hb
theorem sound_bool {glob:Nat→Option (List D)} {f:FuncId} {args:List V} {b:Bool}
  (hf: ∃fn,P.funcs[f]? =some fn∧(fn.name== "runtime.NumGoroutine")=false∧fn.body.isNone=false)
  (h: ∀cargs w own,Given w own cargs args→(∀g cs,glob g=some cs→RepC w own g 0 cs)→Calls P f cargs w fun e w' =>e= .returned (.bool b)∧Below w.heap.size w w'):
  Sound P glob f args ⟨[.d (.bool b)],[]⟩:=by
 refine .inl ⟨hf,fun cargs w own G hg hp _=>(h cargs w own G hg).mono ?_⟩
 rintro e w' ⟨rfl,hB⟩
 have hE:=ext_of_below hB hp
 refine⟨_,own,rfl,hE,fun b s hb=> ?_, #[.bool b],⟨rfl,fun j x hx=> ?_⟩,rfl,fun j hj=>by simp at hj⟩
 ·obtain⟨arr,e,h1⟩:=hp b s hb
  obtain⟨arr',h2,_⟩:=hE.wide b arr e h1
  exact⟨arr',e,h2⟩
 ·cases j with
  |zero=>simp at hx;subst hx;exact .d _ _ (.bool b)
  |succ j=>simp at hx
theorem call_ofG (O:EnvOk P E) {fuel n:Nat} {f:FuncId} {args:List V} {b:Bool} {w:World} {cargs:Array Value}
  (h:callN E fuel n f args=some ⟨[.d (.bool b)],[]⟩) (G:Given w noOwn cargs args) (hg: ∀g cs,E.glob g=some cs→RepC w noOwn g 0 cs) (he:E.ext f args=none:=by rfl):
  Calls P f cargs w fun e w' =>e= .returned (.bool b)∧Below w.heap.size w w' :=by
 obtain⟨_,hS⟩:=callN_soundB O h he
 refine Calls.mono (hS cargs w noOwn G hg (fun b s h=>by cases h) (fun b ow n h=>by cases h)) ?_
 rintro e w' ⟨v,own',rfl,B⟩
 obtain⟨vs,⟨hs,hr⟩,hv,_⟩:=B.vals
 have h1:vs.size=1:=by simpa using hs
 rw[if_pos h1] at hv
 have:=inv_bool (hr 0 (.d (.bool b)) rfl)
 exact⟨by rw[hv,this],below_of_ext B.ext⟩
end Go.VM
set_option linter.unusedSimpArgs false
set_option linter.unusedVariables false
namespace Go.VM
open Go
variable {C : Ctx} {st : St} {slot : Option Nat} {dst : Option Nat} {ty : TypeId} {pos : String} {af : Array Edge} {g : Option (Nat × Bool)}
def makeK (st:St) (slot:Option Nat) (k:TK) (sz:Nat) (zero:List D) (n:Nat):V×St:=
 match k with
 | .int k=>(.mu (st.new slot (.ints false k (List.replicate n 0))).1 0 n n 1,(st.new slot (.ints false k (List.replicate n 0))).2)
 |_=>(.mu (st.new slot (.cells false (rep n (zero.map .d)))).1 0 n n sz,(st.new slot (.cells false (rep n (zero.map .d)))).2)
theorem makeK_int (st:St) (slot:Option Nat) (k:IntKind) (sz:Nat) (zero:List D) (n:Nat):makeK st slot (.int k) sz zero n=(.mu (st.new slot (.ints false k (List.replicate n 0))).1 0 n n 1,(st.new slot (.ints false k (List.replicate n 0))).2):=(rfl)
theorem makeK_bool (st:St) (slot:Option Nat) (sz:Nat) (zero:List D) (n:Nat):makeK st slot .bool sz zero n=(.mu (st.new slot (.cells false (rep n (zero.map .d)))).1 0 n n sz,(st.new slot (.cells false (rep n (zero.map .d)))).2):=(rfl)
theorem makeK_struct (st:St) (slot:Option Nat) (l:List (Nat×Nat)) (sz:Nat) (zero:List D) (n:Nat):makeK st slot (.struct l) sz zero n=(.mu (st.new slot (.cells false (rep n (zero.map .d)))).1 0 n n sz,(st.new slot (.cells false (rep n (zero.map .d)))).2):=(rfl)
theorem makeK_arr (st:St) (slot:Option Nat) (a b:Nat) (sz:Nat) (zero:List D) (n:Nat):makeK st slot (.arr a b) sz zero n=(.mu (st.new slot (.cells false (rep n (zero.map .d)))).1 0 n n sz,(st.new slot (.cells false (rep n (zero.map .d)))).2):=(rfl)
theorem evMake_eq (t:Nat) (n:Int):evMake C st slot t n=bindV (C.tt t) fun i=>bindV (elemK i.k) fun e=>bindV (C.tt e) fun j=>
  condE (decide (0≤n)) (condE (decide (n≤9223372036854775807)) (condE (decide ((j.bytes:Int)*n≤281474976710656)) (condE (Nat.blt 0 j.size) (some (makeK st slot j.k j.size j.zero n.toNat)) none) none) none) none:=by
 unfold evMake
 rcases C.tt t with _|⟨tk,s1,b1,z1,c1,q1⟩
 ·rfl
 ·cases tk with
  |slice e=>
   simp only[bindV_some,elemK_slice,idd]
   rcases C.tt e with _|⟨tk,s2,b2,z2,c2,q2⟩
   ·rfl
   ·simp only[bindV_some,idd,condE]
    cases decide (0≤n)<;>cases decide (n≤9223372036854775807)<;>cases decide ((b2:Int)*n≤281474976710656)<;>cases Nat.blt 0 s2<;>cases tk<;>rfl
  |_=>rfl
theorem op_makeSlice (t:TypeId) (x y:Operand):evOp C slot ⟨dst,.makeSlice t x y,ty,pos,af,g⟩ st=bindV (asI (evO C st 0 x)) fun n=>bindV (asI (evO C st 0 y)) fun m=>
  condE (decide (n=m)) (bindV (evMake C st slot t n) fun r=>some (r.2.put dst r.1)) none:=by
 show (match evO C st 0 x,evO C st 0 y with
  |some (.d (.int _ n)),some (.d (.int _ m))=>(match n==m with
   |true=>(match evMake C st slot t n with
    |some (v,st)=>some (st.put dst v)
    |none=>none)
   |false=>none)
  |_,_=>none)=_
 rcases hx:evO C st 0 x with _|vx
 ·rfl
 ·rcases hy:evO C st 0 y with _|vy
  ·cases vx with
   |d a=>cases a<;>rfl
   |_=>rfl
  ·cases vx with
   |d a=>cases a with
    |int k n=>cases vy with
     |d b=>cases b with
      |int k' m=>
       simp only[asI_d,bindV_some,idd]
       by_cases h:n=m
       ·subst h
        simp only[beq_self_eq_true,decide_true,condE_true]
        rcases evMake C st slot t n with _|⟨v,s⟩<;>rfl
       ·have:(n==m)=false:=by simpa using h
        simp only[this,h,decide_false,condE_false,idd]
      |_=>rfl
     |_=>rfl
    |_=>rfl
   |_=>rfl
def asM (st:St) (i off len sz:Nat):Blk→Option (D×St)
 | .ints _ k xs=>condE (decide (sz=1)) (some (.nums k false ((xs.drop off).take len),{st with blocks:=st.blocks.set i (some (.ints true k xs)),owns:=dropPl (Pl.ofBlk i) st.owns})) none
 | .cells _ cs=>bindV (allD ((cs.drop off).take (len*sz))) fun ds=>some (.sl sz false (chunk sz len ds),{st with blocks:=st.blocks.set i (some (.cells true cs)),owns:=dropPl (Pl.ofBlk i) st.owns})
theorem asM_ints (i off len sz:Nat) (f:Bool) (k:IntKind) (xs:List Int):asM st i off len sz (.ints f k xs)=condE (decide (sz=1)) (some (.nums k false ((xs.drop off).take len),{st with blocks:=st.blocks.set i (some (.ints true k xs)),owns:=dropPl (Pl.ofBlk i) st.owns})) none:=(rfl)
theorem asM_cells (i off len sz:Nat) (f:Bool) (cs:List V):asM st i off len sz (.cells f cs)=bindV (allD ((cs.drop off).take (len*sz))) fun ds=>some (.sl sz false (chunk sz len ds),{st with blocks:=st.blocks.set i (some (.cells true cs)),owns:=dropPl (Pl.ofBlk i) st.owns}):=(rfl)
theorem asD_mu (i off len cap sz:Nat):asD C st (.mu i off len cap sz)=bindV (getB st i) fun B=>asM st i off len sz B:=by
 show (match getB st i with
  |some (.ints _ k xs)=>bif Nat.beq sz 1 then some (D.nums k false ((xs.drop off).take len),st.freeze i) else none
  |some (.cells _ cs)=>match allD ((cs.drop off).take (len*sz)) with
   |some ds=>some (D.sl sz false (chunk sz len ds),st.freeze i)
   |none=>none
  |none=>none)=_
 unfold bindV
 rcases hB:getB st i with _|B
 ·rfl
 ·have hf:st.freeze i= {st with blocks:=st.blocks.set i (some B.freeze),owns:=dropPl (Pl.ofBlk i) st.owns}:=by
   unfold St.freeze
   rw[hB]
  cases B with
  |ints f k xs=>
   simp only[asM,hf,Blk.freeze]
   rw[nbeq_dec]
   rfl
  |cells f cs=>
   simp only[asM,hf,Blk.freeze]
   unfold bindV
   rcases allD ((cs.drop off).take (len*sz)) with _|ds<;>rfl
theorem argV_mu (i off len cap sz:Nat):argV C st (.mu i off len cap sz)=bindV (asD C st (.mu i off len cap sz)) fun r=>some (.d r.1,r.2):=by
 show (match asD C st (.mu i off len cap sz) with
  |some (x,st)=>some (V.d x,st)
  |none=>none)=_
 unfold bindV
 rcases asD C st (.mu i off len cap sz) with _|⟨x,s⟩<;>rfl
theorem argV_ptr (i off:Nat):argV C st (.ptr i off)=bindV (asD C st (.ptr i off)) fun r=>some (.d r.1,r.2):=by
 show (match asD C st (.ptr i off) with
  |some (x,st)=>some (V.d x,st)
  |none=>none)=_
 unfold bindV
 rcases asD C st (.ptr i off) with _|⟨x,s⟩<;>rfl
attribute [simp] asM_ints asM_cells asD_mu argV_mu argV_ptr
attribute [simp] makeK_int makeK_bool makeK_struct makeK_arr evMake_eq op_makeSlice
def copyB (st:St) (dst:Option Nat) (i off len sz:Nat) (s:V):Option Blk→Option St
 |some (.ints false k xs)=>bindV (srcNums st k s) fun ys=>condE (decide (off+(ys.take len).length≤xs.length)) (condE (decide (sz=1))
   (some ((St.mk st.tmps (st.blocks.set i (some (.ints false k (splice off (ys.take len) xs)))) st.owns).put dst (.d (.int .i64 (ys.take len).length)))) none) none
 |_=>none
theorem copyB_ints (dst:Option Nat) (i off len sz:Nat) (s:V) (k:IntKind) (xs:List Int):copyB st dst i off len sz s (some (.ints false k xs))=bindV (srcNums st k s) fun ys=>condE (decide (off+(ys.take len).length≤xs.length)) (condE (decide (sz=1))
   (some ((St.mk st.tmps (st.blocks.set i (some (.ints false k (splice off (ys.take len) xs)))) st.owns).put dst (.d (.int .i64 (ys.take len).length)))) none) none:=(rfl)
def row1 (r:Option TI) (C:Ctx):Bool:=
 match r with
 |some i=>match elemK i.k with
  |some e=>match C.tt e with
   |some j=>decide (j.size=1)
   |none=>false
  |none=>false
 |none=>false
theorem isRow1_eq (t:Nat):isRow1 C t=row1 (C.tt t) C:=by
 unfold isRow1 row1
 rcases C.tt t with _|⟨tk,s1,b1,z1,c1,q1⟩
 ·rfl
 ·cases tk with
  |slice e=>
   simp only[elemK_slice]
   rcases C.tt e with _|j
   ·rfl
   ·simp only[nbeq_dec]
  |_=>rfl
def copyV (C:Ctx) (st:St) (dst:Option Nat) (t:Nat) (s:V):V→Option St
 | .mu i off len cap sz=>condE (isRow1 C t) (copyB st dst i off len sz s (getB st i)) none
 |_=>none
theorem copyV_mu (dst:Option Nat) (t:Nat) (s:V) (i off len cap sz:Nat):copyV C st dst t s (.mu i off len cap sz)=condE (isRow1 C t) (copyB st dst i off len sz s (getB st i)) none:=(rfl)
theorem b_copy (x y:Operand) (t u:Nat):evBuiltin C st dst .copy [x,y] [t,u]=bindV (evO C st t x) fun v=>bindV (evO C st u y) fun s=>condE (isSrc C u) (copyV C st dst t s v) none:=by
 show (match evO C st t x,evO C st u y with
  |some (.mu i off len cap sz),some s=>(match isSrc C u,isRow1 C t with
   |true,true=>(match getB st i with
    |some (.ints false k xs)=>(match srcNums st k s with
     |some ys=>bif Nat.ble (off+(ys.take len).length) xs.length && Nat.beq sz 1 then
       some ((st.setB i (.ints false k (splice off (ys.take len) xs))).put dst (.d (.int .i64 (ys.take len).length))) else none
     |none=>none)
    |_=>none)
   |_,_=>none)
  |_,_=>none)=_
 rcases evO C st t x with _|v
 ·rfl
 ·rcases evO C st u y with _|s
  ·cases v<;>rfl
  ·cases v with
   |mu i off len cap sz=>
    simp only[bindV_some,idd,copyV_mu]
    cases isSrc C u
    ·rfl
    ·cases isRow1 C t
     ·rfl
     ·simp only[condE_true]
      rcases getB st i with _|B
      ·rfl
      ·cases B with
       |cells f cs=>rfl
       |ints f k xs=>
        cases f with
        |true=>rfl
        |false=>
         simp only[copyB_ints]
         rcases srcNums st k s with _|ys
         ·rfl
         ·simp only[bindV_some,idd]
          rw[←nble_dec,←nbeq_dec]
          unfold condE
          cases Nat.ble (off+(ys.take len).length) xs.length<;>cases Nat.beq sz 1<;>rfl
   |_=>simp[copyV,condE]
def clearB (C:Ctx) (st:St) (dst:Option Nat) (t i off len sz:Nat):Option Blk→Option St
 |some (.ints false k xs)=>condE (decide (off+len≤xs.length)) (condE (decide (sz=1)) (condE (isRowK C t k)
   (some ((St.mk st.tmps (st.blocks.set i (some (.ints false k (splice off (List.replicate len 0) xs)))) st.owns).put dst (.tup []))) none) none) none
 |_=>none
theorem clearB_ints (dst:Option Nat) (t i off len sz:Nat) (k:IntKind) (xs:List Int):clearB C st dst t i off len sz (some (.ints false k xs))=condE (decide (off+len≤xs.length)) (condE (decide (sz=1)) (condE (isRowK C t k)
   (some ((St.mk st.tmps (st.blocks.set i (some (.ints false k (splice off (List.replicate len 0) xs)))) st.owns).put dst (.tup []))) none) none) none:=(rfl)
def clearV (C:Ctx) (st:St) (dst:Option Nat) (t:Nat):V→Option St
 | .mu i off len cap sz=>condE (isRow1 C t) (clearB C st dst t i off len sz (getB st i)) none
 |_=>none
theorem clearV_mu (dst:Option Nat) (t i off len cap sz:Nat):clearV C st dst t (.mu i off len cap sz)=condE (isRow1 C t) (clearB C st dst t i off len sz (getB st i)) none:=(rfl)
theorem b_clear (x:Operand) (t:Nat):evBuiltin C st dst .clear [x] [t]=bindV (evO C st t x) fun v=>clearV C st dst t v:=by
 show (match evO C st t x with
  |some (.mu i off len cap sz)=>(match isRow1 C t with
   |true=>(match getB st i with
    |some (.ints false k xs)=>bif Nat.ble (off+len) xs.length && Nat.beq sz 1 && isRowK C t k then
      some ((st.setB i (.ints false k (splice off (List.replicate len 0) xs))).put dst (.tup [])) else none
    |_=>none)
   |false=>none)
  |_=>none)=_
 rcases evO C st t x with _|v
 ·rfl
 ·cases v with
  |mu i off len cap sz=>
   simp only[bindV_some,idd,clearV_mu]
   cases isRow1 C t
   ·rfl
   ·simp only[condE_true]
    rcases getB st i with _|B
    ·rfl
    ·cases B with
     |cells f cs=>rfl
     |ints f k xs=>
      cases f with
      |true=>rfl
      |false=>
       simp only[clearB_ints]
       rw[←nble_dec,←nbeq_dec]
       unfold condE
       cases Nat.ble (off+len) xs.length<;>cases Nat.beq sz 1<;>cases isRowK C t k<;>rfl
  |_=>rfl
def rowK (r:Option TI) (C:Ctx) (k:IntKind):Bool:=
 match r with
 |some i=>match elemK i.k with
  |some e=>match C.tt e with
   |some j=>(match j.k with| .int k' =>k==k' |_=>false)
   |none=>false
  |none=>false
 |none=>false
theorem isRowK_eq (t:Nat) (k:IntKind):isRowK C t k=rowK (C.tt t) C k:=by
 unfold isRowK rowK
 rcases C.tt t with _|⟨tk,s1,b1,z1,c1,q1⟩
 ·rfl
 ·cases tk with
  |slice e=>
   simp only[elemK_slice]
   rcases C.tt e with _|⟨tk,s2,b2,z2,c2,q2⟩
   ·rfl
   ·cases tk<;>rfl
  |_=>rfl
theorem isRow1_some (i:TI):row1 (some i) C=(match elemK i.k with|some e=>(match C.tt e with|some j=>decide (j.size=1)|none=>false)|none=>false):=(rfl)
theorem rowK_some (i:TI) (k:IntKind):rowK (some i) C k=(match elemK i.k with|some e=>(match C.tt e with|some j=>(match j.k with| .int k' =>k==k' |_=>false)|none=>false)|none=>false):=(rfl)
def arrV (n:Nat):V→Option V
 | .mu i off len _ _=>condE (decide (n≤len)) (some (.ptr i off)) none
 | .d (.nums k false xs)=>condE (decide (n≤xs.length)) (some (.d (.fp (xs.map (.int k))))) none
 |_=>none
theorem arrV_mu (n i off len cap sz:Nat):arrV n (.mu i off len cap sz)=condE (decide (n≤len)) (some (.ptr i off)) none:=(rfl)
theorem arrV_nums (n:Nat) (k:IntKind) (xs:List Int):arrV n (.d (.nums k false xs))=condE (decide (n≤xs.length)) (some (.d (.fp (xs.map (.int k))))) none:=(rfl)
def arrN (k:TK):Option Nat:=match k with| .arr n _=>some n|_=>none
theorem arrN_arr (n e:Nat):arrN (.arr n e)=some n:=(rfl)
theorem op_arrayAt (t:TypeId) (x:Operand):evOp C slot ⟨dst,.sliceToArrayPointer t x,ty,pos,af,g⟩ st=bindV (evO C st 0 x) fun v=>bindV (C.tt t) fun i=>bindV (arrN i.k) fun n=>condE (decide (0<n)) (bindV (arrV n v) fun p=>some (st.put dst p)) none:=by
 show (match evO C st 0 x with
  |some v=>(match evArrayAt C t v with
   |some v=>some (st.put dst v)
   |none=>none)
  |none=>none)=_
 rcases evO C st 0 x with _|v
 ·rfl
 ·simp only[bindV_some,idd]
  unfold evArrayAt
  rcases C.tt t with _|⟨tk,s1,b1,z1,c1,q1⟩
  ·rfl
  ·cases tk with
   |arr n e=>
    simp only[bindV_some,idd,arrN_arr]
    rw[←nblt_dec]
    cases Nat.blt 0 n with
    |false=>rfl
    |true=>
     simp only[cond_true,condE_true]
     cases v with
     |mu i off len cap sz=>
      simp only[arrV_mu]
      rw[←nble_dec]
      cases Nat.ble n len<;>rfl
     |d y=>
      cases y with
      |nums k nl xs=>
       cases nl with
       |true=>rfl
       |false=>
        simp only[arrV_nums]
        rw[←nble_dec]
        cases Nat.ble n xs.length<;>rfl
      |_=>rfl
     |_=>rfl
   |_=>rfl
attribute [simp] b_copy copyV_mu copyB_ints isRow1_eq isRow1_some b_clear clearV_mu clearB_ints isRowK_eq rowK_some op_arrayAt arrN_arr arrV_mu arrV_nums
end Go.VM
set_option linter.unusedSimpArgs false
set_option linter.unusedVariables false
namespace Go.VM
open Go
variable {P : Program}
def litVal:Lit→Value
 | .int k n=> .int k n
 | .bool b=> .bool b
 |_=>undef
def litD:Lit→D
 | .int k n=> .int k n
 | .bool b=> .bool b
 |_=> .bool false
def litOk:Lit→Bool
 | .int k n=>(Lit.int k n).wf
 | .bool _=>true
 |_=>false
def contig (P:Program) (tot:Nat):Nat→List Field→Bool
 |off,[]=>off==tot
 |off,f::r=>f.offset==off && contig P tot (off+P.cellsOf f.type) r
def flatT (P:Program):Nat→TypeId→Bool
 |0,_=>false
 |m+1,t=>match P.underlying t with
  |some .bool=>P.cellsOf t==1
  |some (.int _)=>P.cellsOf t==1
  |some (.array n e)=>P.cellsOf t==n*P.cellsOf e && flatT P m e
  |some (.struct fs)=>contig P (P.cellsOf t) 0 fs.toList && fs.toList.all fun f=>flatT P m f.type
  |_=>false
theorem mapM_cells {α:Type} {f:α→Option (List Lit)} {g:α→List Value}: ∀ {L:List α} {xs:List (List Lit)},L.mapM f=some xs→(∀x∈L,∀y,f x=some y→g x=y.map litVal∧y.all litOk=true)→
  L.flatMap g=xs.flatten.map litVal∧xs.flatten.all litOk=true
 |[],xs,h,_=>by simp at h;subst h;exact⟨rfl,rfl⟩
 |x::L,xs,h,hg=>by
  rw[List.mapM_cons] at h
  simp only[bind,Option.bind_eq_some_iff,pure,Option.some.injEq] at h
  obtain⟨y,hy,ys,hys,rfl⟩:=h
  obtain⟨e1,e2⟩:=hg x (List.mem_cons_self ..) y hy
  obtain⟨i1,i2⟩:=mapM_cells hys (fun z hz=>hg z (List.mem_cons_of_mem _ hz))
  refine⟨by simp[List.flatMap_cons,e1,i1],by simp only[List.flatten_cons,List.all_append,e2,i2,Bool.and_self]⟩
theorem chunks_all {α:Type} (sz:Nat): ∀(n:Nat) (l:List α),l.length=n*sz→(List.range n).flatMap (fun i=>(l.drop (i*sz)).take sz)=l
 |0,l,h=>by
  have:l=[]:=List.eq_nil_of_length_eq_zero (by simpa using h)
  subst this;rfl
 |n+1,l,h=>by
  rw[List.range_succ_eq_map,List.flatMap_cons,List.flatMap_map]
  have ih:=chunks_all sz n (l.drop sz) (by rw[List.length_drop,h,Nat.succ_mul];omega)
  have e:(fun i=>((l.drop ((Nat.succ i)*sz)).take sz))=fun i=>(((l.drop sz).drop (i*sz)).take sz):=by
   funext i
   rw[List.drop_drop]
   congr 2
   rw[Nat.succ_mul];omega
  rw[e,ih]
  simp
theorem contig_all {tot:Nat} (cs:List Value) (hl:cs.length=tot): ∀(fs:List Field) (off:Nat),contig P tot off fs=true→off≤tot→
  fs.flatMap (fun f=>(cs.drop f.offset).take (P.cellsOf f.type))=cs.drop off
 |[],off,h,_=>by
  simp only[contig,beq_iff_eq] at h
  subst h
  rw[←hl,List.drop_length];rfl
 |f::r,off,h,ho=>by
  simp only[contig,Bool.and_eq_true,beq_iff_eq] at h
  have hle:off+P.cellsOf f.type≤tot:=by
   have: ∀(fs:List Field) (o:Nat),contig P tot o fs=true→o≤tot:=by
    intro fs
    induction fs with
    |nil=>intro o h;simp only[contig,beq_iff_eq] at h;omega
    |cons g r ih=>intro o h;simp only[contig,Bool.and_eq_true] at h;have:=ih _ h.2;omega
   exact this r _ h.2
  rw[List.flatMap_cons,contig_all cs hl r _ h.2 hle,h.1,←List.drop_drop,List.take_append_drop]
theorem cells_of_lits: ∀(m:Nat) (t:TypeId),flatT P m t=true→ ∀(k:Nat) (cs:List Value) (ls:List Lit),P.keyLits k t cs=some ls→cs=ls.map litVal∧ls.all litOk=true
 |0,t,h=>by simp[flatT] at h
 |m+1,t,h=>by
  intro k cs ls hk
  cases k with
  |zero=>simp[Program.keyLits] at hk
  |succ k=>
   unfold flatT at h
   unfold Program.keyLits at hk
   cases hu:P.underlying t with
   |none=>rw[hu] at h;cases h
   |some d=>
    rw[hu] at h hk
    cases d<;>try (exfalso;simp at h;done)
    case bool=>
     split at hk
     ·cases hk;exact⟨rfl,rfl⟩
     all_goals first|(rename_i heq;cases heq;done)|skip
     all_goals first|(cases hk;done)|skip
    case int q=>
     split at hk
     ·rename_i heq;cases heq
     ·rename_i q1 q2 n heq
      cases heq
      split at hk
      ·rename_i hw
       obtain⟨rfl,hw⟩:=hw
       cases hk
       exact⟨rfl,by simp[litOk,hw]⟩
      ·cases hk
     all_goals first|(rename_i heq;cases heq;done)|skip
     all_goals first|(cases hk;done)|skip
    case array n e=>
     simp only[Bool.and_eq_true,beq_iff_eq] at h
     simp only at hk
     split at hk
     ·rename_i hl
      simp only[Option.map_eq_some_iff] at hk
      obtain⟨xs,hxs,rfl⟩:=hk
      obtain⟨e1,e2⟩:=mapM_cells (g:=fun i=>(cs.drop (i*P.cellsOf e)).take (P.cellsOf e)) hxs (fun i _ y hy=>cells_of_lits m e h.2 k _ y hy)
      rw[chunks_all _ _ _ (by rw[hl,h.1])] at e1
      exact⟨e1,e2⟩
     ·cases hk
    case struct fs=>
     simp only[Bool.and_eq_true,List.all_eq_true] at h
     simp only at hk
     split at hk
     ·rename_i hl
      simp only[Option.map_eq_some_iff] at hk
      obtain⟨xs,hxs,rfl⟩:=hk
      obtain⟨e1,e2⟩:=mapM_cells (g:=fun f=>(cs.drop f.offset).take (P.cellsOf f.type)) hxs (fun f hf y hy=>cells_of_lits m f.type (h.2 f hf) k _ y hy)
      rw[contig_all cs hl.1 _ 0 h.1 (Nat.zero_le _)] at e1
      exact⟨e1,e2⟩
     ·cases hk
theorem laidVars_mem {W:World} {n:String} {d:DataW Unit}: ∀ {l:List (String×DataW Unit)} {ps:List MemPlace},DataW.LaidVars P W l ps→(n,d)∈l→
  ∃g t cs fuel p,P.globalNamed n=some g∧(P.globals[g]?).map (·.type)=some t∧W.var? P n=some cs∧DataW.trod (fun _=>()) P W 0 (fun _=>true) false fuel t cs.toList=some (d,p)
 |[],ps,h,hm=>by cases hm
 |(n',d')::r,ps,h,hm=>by
  obtain⟨g,t,cs,fuel,p,q,e1,e2,e3,e4,hr,rfl⟩:=h
  rcases List.mem_cons.1 hm with hm|hm
  ·cases hm;exact⟨g,t,cs,fuel,p,e1,e2,e3,e4⟩
  ·exact laidVars_mem hr hm
theorem wrap_wf {k:IntKind} {n:Int} (h:(Lit.int k n).wf=true):k.wrap n=n:=wrap_of_wf h
theorem rep_laid {W:World} {laid:List (String×DataW Unit)} (h:laidMet P laid W) {n:String} {d:DataW Unit} (hm:(n,d)∈laid) {g:Nat} {t:TypeId} (hg:P.globalNamed n=some g) (ht:(P.globals[g]?).map (·.type)=some t)
  {m k:Nat} (hk:P.keyTypeAt m t=true) (hf:flatT P k t=true) {cs:List D} (hd:d.flat.map litD=cs):RepC W noOwn g 0 cs:=by
 obtain⟨ps,hl,_,_⟩:=h
 obtain⟨g',t',vs,fuel,p,e1,e2,e3,e4⟩:=laidVars_mem hl hm
 rw[hg] at e1;cases e1
 rw[ht] at e2;cases e2
 obtain⟨k1,_⟩:=keyLits_of_trod m t hk fuel _ _ e4
 obtain⟨c1,c2⟩:=cells_of_lits k t hf m _ _ k1
 subst hd
 intro j x hx
 rw[List.getElem?_map] at hx
 cases hl' :d.flat[j]? with
 |none=>rw[hl'] at hx;cases hx
 |some l=>
  rw[hl'] at hx
  cases hx
  have hv:vs[j]? =some (litVal l):=by
   have:vs.toList[j]? =some (litVal l):=by rw[c1,List.getElem?_map,hl'];rfl
   simpa using this
  have hcell:W.cell? ⟨g,j,none⟩=some (litVal l):=by rw[World.var?_cell hg e3 j];exact hv
  have hok:litOk l=true:=List.all_eq_true.1 c2 l (List.mem_of_getElem? hl')
  refine⟨litVal l,⟨by rw[Nat.zero_add];exact hcell,fun ow n h=>(by cases h), ?_⟩, ?_⟩
  ·cases l<;>first|rfl|(simp[litOk] at hok)
  ·cases l with
   |int k n=>exact .int k n (wrap_wf hok)
   |bool b=>exact .bool b
   |_=>simp[litOk] at hok
def litK:Lit→Option IntKind
 | .int q _=>some q
 |_=>none
def kindsT (P:Program):Nat→TypeId→List (Option IntKind)
 |0,_=>[]
 |m+1,t=>match P.underlying t with
  |some .bool=>[none]
  |some (.int q)=>[some q]
  |some (.array n e)=>(List.range n).flatMap fun _=>kindsT P m e
  |some (.struct fs)=>fs.toList.flatMap fun f=>kindsT P m f.type
  |_=>[]
theorem mapM_kinds {α:Type} {f:α→Option (List Lit)} {g:α→List (Option IntKind)}: ∀ {L:List α} {xs:List (List Lit)},L.mapM f=some xs→(∀x∈L,∀y,f x=some y→y.map litK=g x)→
  xs.flatten.map litK=L.flatMap g
 |[],xs,h,_=>by simp at h;subst h;rfl
 |x::L,xs,h,hg=>by
  rw[List.mapM_cons] at h
  simp only[bind,Option.bind_eq_some_iff,pure,Option.some.injEq] at h
  obtain⟨y,hy,ys,hys,rfl⟩:=h
  have e1:=hg x (List.mem_cons_self ..) y hy
  have i1:=mapM_kinds hys (fun z hz=>hg z (List.mem_cons_of_mem _ hz))
  simp[List.flatMap_cons,e1,i1]
theorem kinds_of_lits: ∀(m:Nat) (t:TypeId),flatT P m t=true→ ∀(k:Nat) (cs:List Value) (ls:List Lit),P.keyLits k t cs=some ls→ls.map litK=kindsT P m t
 |0,t,h=>by simp[flatT] at h
 |m+1,t,h=>by
  intro k cs ls hk
  cases k with
  |zero=>simp[Program.keyLits] at hk
  |succ k=>
   unfold flatT at h
   unfold Program.keyLits at hk
   unfold kindsT
   cases hu:P.underlying t with
   |none=>rw[hu] at h;cases h
   |some d=>
    rw[hu] at h hk
    cases d<;>try (exfalso;simp at h;done)
    case bool=>
     split at hk
     ·cases hk;rfl
     all_goals first|(rename_i heq;cases heq;done)|skip
     all_goals first|(cases hk;done)|skip
    case int q=>
     split at hk
     ·rename_i heq;cases heq
     ·rename_i q1 q2 n heq
      cases heq
      split at hk
      ·cases hk;rfl
      ·cases hk
     all_goals first|(rename_i heq;cases heq;done)|skip
     all_goals first|(cases hk;done)|skip
    case array n e=>
     simp only[Bool.and_eq_true,beq_iff_eq] at h
     simp only at hk
     split at hk
     ·simp only[Option.map_eq_some_iff] at hk
      obtain⟨xs,hxs,rfl⟩:=hk
      exact mapM_kinds hxs (fun i _ y hy=>kinds_of_lits m e h.2 k _ y hy)
     ·cases hk
    case struct fs=>
     simp only[Bool.and_eq_true,List.all_eq_true] at h
     simp only at hk
     split at hk
     ·simp only[Option.map_eq_some_iff] at hk
      obtain⟨xs,hxs,rfl⟩:=hk
      exact mapM_kinds hxs (fun f hf y hy=>kinds_of_lits m f.type (h.2 f hf) k _ y hy)
     ·cases hk
theorem ints_of_kinds {q:IntKind}: ∀ {n:Nat} {ls:List Lit},ls.map litK=List.replicate n (some q)→ ∃ns:List Int,ns.length=n∧ls=ns.map (Lit.int q)
 |0,ls,h=>by
  have:ls=[]:=by simpa using h
  subst this
  exact⟨[],rfl,rfl⟩
 |n+1,[],h=>by simp[List.replicate_succ] at h
 |n+1,l::ls,h=>by
  simp only[List.map_cons,List.replicate_succ,List.cons.injEq] at h
  obtain⟨ns,h1,h2⟩:=ints_of_kinds h.2
  cases l with
  |int k x=>
   have:=h.1
   simp only[litK,Option.some.injEq] at this
   subst this
   exact⟨x::ns,by simp[h1],by simp[h2]⟩
  |_=>simp[litK] at h
theorem flat_in {H:Type} {enc:TypeId×Value→H} {W:World} {base:Nat} {sp:Nat→Bool} {held:Bool} {t:TypeId} {arr:Array Value} {d:DataW H} {p:List MemPlace} (h:DataW.Trod enc P W base sp held t (.agg arr) d p)
  {m k n:Nat} {q:IntKind} (hk:P.keyTypeAt m t=true) (hf:flatT P k t=true) (hn:kindsT P k t=List.replicate n (some q)):
  ∃ns:List Int,ns.length=n∧(∀x∈ns,(Lit.int q x).wf=true)∧RepD W noOwn (.agg arr) (.agg (ns.map (.int q))):=by
 obtain⟨fuel,h⟩:=h
 have hc:(Value.agg arr).cells.toList=arr.toList:=rfl
 rw[hc] at h
 obtain⟨k1,_⟩:=keyLits_of_trod m t hk fuel _ _ h
 obtain⟨c1,c2⟩:=cells_of_lits k t hf m _ _ k1
 have c3:=kinds_of_lits k t hf m _ _ k1
 rw[hn] at c3
 obtain⟨ns,h1,h2⟩:=ints_of_kinds c3
 rw[h2] at c1 c2
 have hw: ∀x∈ns,(Lit.int q x).wf=true:=fun x hx=>List.all_eq_true.1 c2 (.int q x) (List.mem_map.2 ⟨x,hx,rfl⟩)
 have hsz:arr.size=ns.length:=by
  have:=congrArg List.length c1
  simpa using this
 have hget: ∀(j:Nat) (x:Int),ns[j]? =some x→arr.getD j undef= .int q x:=fun j x hx=>by
  have:arr.toList[j]? =some (.int q x):=by rw[c1];simp[hx,litVal]
  simp only[Array.getElem?_toList] at this
  simp[Array.getD_eq_getD_getElem?,this]
 refine⟨ns,h1,hw,.agg arr _ (by simp[hsz]) (fun j hj=> ?_) (fun j x hx=> ?_)⟩
 ·rw[hsz] at hj
  rw[hget j ns[j] (List.getElem?_eq_getElem hj)]
  rfl
 ·rw[List.getElem?_map] at hx
  cases hx' :ns[j]? with
  |none=>rw[hx'] at hx;cases hx
  |some z=>
   rw[hx'] at hx
   cases hx
   rw[hget j z hx']
   exact .int q z (wrap_wf (hw z (List.mem_of_getElem? hx')))
theorem u64_of_wf {n:Int} (h:(Lit.int .u64 n).wf=true):0≤n∧n<18446744073709551616:=by
 simp only[Lit.wf,Bool.and_eq_true,decide_eq_true_eq,IntKind.min,IntKind.max,IntKind.signed,IntKind.bits] at h
 simp at h
 omega
end Go.VM
set_option linter.unusedSimpArgs false
set_option linter.unusedVariables false
namespace Go.VM
open Go
def orcE (E:Env) (orc:FuncId→List V→Option Ret):Env:=
 {E with ext:=fun f args=>match E.ext f args with
  |some r=>some r
  |none=>orc f args}
theorem orc_some {E:Env} {orc:FuncId→List V→Option Ret} {f:FuncId} {args:List V} {r:Ret} (h:(orcE E orc).ext f args=some r):E.ext f args=some r∨E.ext f args=none∧orc f args=some r:=by
 simp only[orcE] at h
 split at h
 ·rename_i r' e;cases h;exact .inl e
 ·rename_i e;exact .inr ⟨e,h⟩
theorem orc_none {E:Env} {orc:FuncId→List V→Option Ret} {f:FuncId} {args:List V} (h:(orcE E orc).ext f args=none):E.ext f args=none:=by
 simp only[orcE] at h
 split at h
 ·cases h
 ·rename_i e;exact e
theorem callB_orc {E:Env} {orc:FuncId→List V→Option Ret} {fuel N:Nat} (ho: ∀f args r,orc f args=some r→callN E fuel N f args=some r):
  ∀n:Nat,(∀f args r,callN (orcE E orc) fuel n f args=some r→callN E fuel (n+N) f args=some r)∧
  ∀f args bs bo r,callP (orcE E orc) fuel n f args bs bo=some r→callP E fuel (n+N) f args bs bo=some r
 |0=>⟨fun f args r h=>by simp[callN_zero] at h,fun f args bs bo r h=>by simp[callP_zero] at h⟩
 |n+1=>by
  have IH:=callB_orc ho n
  have hw: ∀f,E.ctx f (callN E fuel (n+N)) (callP E fuel (n+N))=((orcE E orc).ctx f (callN (orcE E orc) fuel n) (callP (orcE E orc) fuel n)).with (callN E fuel (n+N)) (callP E fuel (n+N)):=fun f=>rfl
  have hn:n+1+N=(n+N)+1:=by omega
  refine⟨fun f args r h=> ?_,fun f args bs bo r h=> ?_⟩
  ·cases hx:(orcE E orc).ext f args with
   |some r' =>
    rw[callN_succ,hx] at h
    cases h
    rcases orc_some hx with h1|⟨_,h1⟩
    ·rw[hn,callN_succ,h1]
    ·exact callN_mono (Nat.le_refl _) (show N≤n+1+N by omega) (ho f args _ h1)
   |none=>
    rw[callN_succ,hx] at h
    rw[hn,callN_succ,orc_none hx]
    have e0:(orcE E orc).fns=E.fns:=rfl
    rw[e0] at h
    simp only at h⊢
    split at h
    ·rename_i fn e1
     try simp only[e1]
     split at h
     ·rename_i c e2
      try simp only[e2]
      split at h
      ·rename_i e3
       try simp only[e3]
       unfold run at h⊢
       rw[hw,mono_finish]
       cases h1:ev ((orcE E orc).ctx f (callN (orcE E orc) fuel n) (callP (orcE E orc) fuel n)) fuel c {tmps:=argsT 0 args,blocks:=[],owns:=[] } with
       |none=>rw[h1] at h;simp[finish] at h
       |some x=>
        rw[h1] at h
        rw[mono_ev (C:=(orcE E orc).ctx f (callN (orcE E orc) fuel n) (callP (orcE E orc) fuel n)) (g:=callN E fuel (n+N)) (gp:=callP E fuel (n+N)) IH (Nat.le_refl _) h1]
        exact h
      ·cases h
     ·cases h
    ·cases h
  ·have ep:(orcE E orc).extP=E.extP:=rfl
   have e0:(orcE E orc).fns=E.fns:=rfl
   rw[callP_succ,ep,e0] at h
   rw[hn,callP_succ]
   split at h
   ·rename_i e
    try simp only[e]
    exact h
   ·rename_i e
    try simp only[e]
    split at h
    ·rename_i fn e1
     try simp only[e1]
     split at h
     ·rename_i c e2
      try simp only[e2]
      split at h
      ·rename_i e3
       try simp only[e3]
       unfold runP at h⊢
       rw[hw,mono_finishP]
       cases h1:ev ((orcE E orc).ctx f (callN (orcE E orc) fuel n) (callP (orcE E orc) fuel n)) fuel c {tmps:=argsT 0 args,blocks:=bs,owns:=bo} with
       |none=>rw[h1] at h;simp[finishP] at h
       |some x=>
        rw[h1] at h
        rw[mono_ev (C:=(orcE E orc).ctx f (callN (orcE E orc) fuel n) (callP (orcE E orc) fuel n)) (g:=callN E fuel (n+N)) (gp:=callP E fuel (n+N)) IH (Nat.le_refl _) h1]
        exact h
      ·cases h
     ·cases h
    ·cases h
inductive CS where
 |int (k:IntKind)
 |bool
 |lit (b:Bool)
 |num (k:IntKind) (n:Int)
 |nums (k:IntKind) (n:Nat)
 |nilS (k:IntKind)
 |nilE
 |sl (sz n:Nat) (k:IntKind)
 deriving Inhabited
inductive Sh where
 |one (k:CS)
 |agg (l:List CS)
 |fn (f:FuncId)
 deriving Inhabited
def okInts (k:IntKind):Nat→List D→Bool
 |0,[]=>true
 |n+1,.int k' _::l=>(k==k') && okInts k n l
 |_,_=>false
def okRows (sz:Nat) (k:IntKind):Nat→List (List D)→Bool
 |0,[]=>true
 |n+1,c::l=>okInts k sz c && okRows sz k n l
 |_,_=>false
def CS.ok:CS→D→Bool
 | .int k,.int k' _=>k==k'
 | .bool,.bool _=>true
 | .lit b,.bool c=>b==c
 | .num k n,.int k' m=>(k==k') && (n==m)
 | .nums k n,.nums k' false xs=>(k==k') && Nat.beq n xs.length
 | .nilS k,.nums k' true []=>k==k'
 | .nilE,.nilifc=>true
 | .sl sz n k,.sl z false xs=>Nat.beq sz z && okRows sz k n xs
 |_,_=>false
def okCells:List CS→List D→Bool
 |[],[]=>true
 |c::l,d::m=>c.ok d && okCells l m
 |_,_=>false
def Sh.ok:Sh→V→Bool
 | .one k,.d d=>k.ok d
 | .agg l,.d (.agg ds)=>okCells l ds
 | .fn f,.fn g []=>Nat.beq f g
 |_,_=>false
def okAll:List Sh→List V→Bool
 |[],[]=>true
 |s::l,v::m=>s.ok v && okAll l m
 |_,_=>false
def sameNs:List Nat→List Nat→Bool
 |[],[]=>true
 |a::l,b::m=>Nat.beq a b && sameNs l m
 |_,_=>false
def okRes (rs:List Sh) (r:Option Ret) (ow:List Nat:=[]):Bool:=match r with
 |some ⟨vs,o⟩=>okAll rs vs && sameNs o ow
 |none=>false
def mkI (x:Nat→Int):Nat→Nat→List Int
 |_,0=>[]
 |i,n+1=>x i::mkI x (i+1) n
def mkRows (x:Nat→Int) (sz:Nat) (k:IntKind):Nat→Nat→List (List D)
 |_,0=>[]
 |i,n+1=>(mkI x i sz).map (.int k)::mkRows x sz k (i+sz) n
def CS.mk (x:Nat→Int) (b:Bool):CS→D
 | .int k=> .int k (x 0)
 | .bool=> .bool b
 | .lit c=> .bool c
 | .num k n=> .int k n
 | .nums k n=> .nums k false (mkI x 0 n)
 | .nilS k=> .nums k true []
 | .nilE=> .nilifc
 | .sl sz n k=> .sl sz false (mkRows x sz k 0 n)
def mkCells (x:Nat→Nat→Int) (b:Nat→Bool):Nat→List CS→List D
 |_,[]=>[]
 |i,c::l=>c.mk (x i) (b i)::mkCells x b (i+1) l
def Sh.mk (x:Nat→Nat→Int) (b:Nat→Bool):Sh→V
 | .one k=> .d (k.mk (x 0) (b 0))
 | .agg l=> .d (.agg (mkCells x b 0 l))
 | .fn f=> .fn f []
def mkAll (x:Nat→Nat→Nat→Int) (b:Nat→Nat→Bool):Nat→List Sh→List V
 |_,[]=>[]
 |i,s::l=>s.mk (x i) (b i)::mkAll x b (i+1) l
def intOfD:D→Int
 | .int _ n=>n
 |_=>0
def numOfD:D→Nat→Int
 | .int _ n,_=>n
 | .nums _ _ xs,e=>xs.getD e 0
 | .sl _ _ xs,e=>intOfD (xs.flatten.getD e .nilifc)
 |_,_=>0
def boolOfD:D→Bool
 | .bool b=>b
 |_=>false
def cellAt:V→Nat→D
 | .d (.agg l),i=>l.getD i .nilifc
 | .d x,_=>x
 |_,_=> .nilifc
def valAt (r:Option Ret) (j i:Nat):D:=match r with
 |some r=>cellAt (r.vals.getD j .any) i
 |none=> .nilifc
theorem mkI_get: ∀(xs pre:List Int),mkI (fun e=>(pre++xs).getD e 0) pre.length xs.length=xs
 |[],pre=>rfl
 |x::xs,pre=>by
  have ih:=mkI_get xs (pre++[x])
  simp only[List.append_assoc,List.cons_append,List.nil_append,List.length_append,List.length_cons,List.length_nil] at ih
  simp only[List.length_cons,mkI]
  rw[ih]
  simp[List.getD]
theorem okInts_map {k:IntKind}: ∀ {n:Nat} {l:List D},okInts k n l=true→l.length=n∧l=(l.map intOfD).map (.int k)
 |0,[],_=>⟨rfl,rfl⟩
 |0,_::_,h=>by simp[okInts] at h
 |n+1,[],h=>by simp[okInts] at h
 |n+1,d::l,h=>by
  cases d with
  |int k' m=>
   simp only[okInts,Bool.and_eq_true,beq_iff_eq] at h
   obtain⟨h1,h2⟩:=okInts_map h.2
   refine⟨by simp[h1], ?_⟩
   rw[←h.1]
   simp only[List.map_cons,intOfD]
   rw[←h2]
  |_=>simp[okInts] at h
theorem mkI_map (xs:List D) (pre:List D) (post:List D):mkI (fun e=>intOfD ((pre++(xs++post)).getD e .nilifc)) pre.length xs.length=xs.map intOfD:=by
 induction xs generalizing pre with
 |nil=>rfl
 |cons x xs ih=>
  have:=ih (pre++[x])
  simp only[List.append_assoc,List.cons_append,List.nil_append,List.length_append,List.length_cons,List.length_nil] at this
  simp only[List.length_cons,mkI,List.map_cons,List.cons_append]
  rw[this]
  simp[List.getD]
theorem mkRows_get {sz:Nat} {k:IntKind}: ∀ {n:Nat} {xs:List (List D)} (pre:List D),okRows sz k n xs=true→mkRows (fun e=>intOfD ((pre++xs.flatten).getD e .nilifc)) sz k pre.length n=xs
 |0,[],pre,_=>rfl
 |0,_::_,_,h=>by simp[okRows] at h
 |n+1,[],_,h=>by simp[okRows] at h
 |n+1,c::l,pre,h=>by
  simp only[okRows,Bool.and_eq_true] at h
  obtain⟨h1,h2⟩:=okInts_map h.1
  have ih:=mkRows_get (pre++c) h.2
  simp only[List.append_assoc,List.length_append] at ih
  have hc:=mkI_map c pre l.flatten
  simp only[mkRows,List.flatten_cons]
  rw[h1] at ih hc
  rw[ih,hc,←h2]
theorem okC_mk {c:CS} {d:D} (h:c.ok d=true):c.mk (numOfD d) (boolOfD d)=d:=by
 cases c with
 |int k=>
  cases d with
  |int k' n=>simp only[CS.ok,beq_iff_eq] at h;subst h;rfl
  |_=>simp[CS.ok] at h
 |bool=>
  cases d with
  |bool b=>rfl
  |_=>simp[CS.ok] at h
 |lit b=>
  cases d with
  |bool c=>simp only[CS.ok,beq_iff_eq] at h;subst h;rfl
  |_=>simp[CS.ok] at h
 |num k n=>
  cases d with
  |int k' m=>simp only[CS.ok,Bool.and_eq_true,beq_iff_eq] at h;obtain⟨h1,h2⟩:=h;subst h1;subst h2;rfl
  |_=>simp[CS.ok] at h
 |nums k n=>
  cases d with
  |nums k' nl xs=>
   cases nl with
   |true=>simp[CS.ok] at h
   |false=>
    simp only[CS.ok,Bool.and_eq_true,beq_iff_eq] at h
    obtain⟨h1,h2⟩:=h
    have h2:=Nat.eq_of_beq_eq_true h2
    subst h1;subst h2
    have:=mkI_get xs []
    simp only[List.nil_append,List.length_nil] at this
    show D.nums k false (mkI (fun e=>xs.getD e 0) 0 xs.length)=_
    rw[this]
  |_=>simp[CS.ok] at h
 |nilS k=>
  cases d with
  |nums k' nl xs=>
   cases nl with
   |true=>
    cases xs with
    |nil=>simp only[CS.ok,beq_iff_eq] at h;subst h;rfl
    |cons _ _=>simp[CS.ok] at h
   |false=>simp[CS.ok] at h
  |_=>simp[CS.ok] at h
 |nilE=>
  cases d with
  |nilifc=>rfl
  |_=>simp[CS.ok] at h
 |sl sz n k=>
  cases d with
  |sl z nl xs=>
   cases nl with
   |true=>simp[CS.ok] at h
   |false=>
    simp only[CS.ok,Bool.and_eq_true] at h
    obtain⟨h1,h2⟩:=h
    have h1:=Nat.eq_of_beq_eq_true h1
    subst h1
    have:=mkRows_get (pre:=[]) h2
    simp only[List.nil_append,List.length_nil] at this
    show D.sl sz false (mkRows (fun e=>intOfD (xs.flatten.getD e .nilifc)) sz k 0 n)=_
    rw[this]
  |_=>simp[CS.ok] at h
theorem okCells_mk: ∀ {l:List CS} {ds:List D} (pre:List D),okCells l ds=true→mkCells (fun i=>numOfD ((pre++ds).getD i .nilifc)) (fun i=>boolOfD ((pre++ds).getD i .nilifc)) pre.length l=ds
 |[],[],pre,_=>rfl
 |[],_::_,_,h=>by simp[okCells] at h
 |_::_,[],_,h=>by simp[okCells] at h
 |c::l,d::m,pre,h=>by
  simp only[okCells,Bool.and_eq_true] at h
  have ih:=okCells_mk (pre++[d]) h.2
  simp only[List.append_assoc,List.cons_append,List.nil_append,List.length_append,List.length_cons,List.length_nil] at ih
  simp only[mkCells]
  rw[ih]
  have e:(pre++d::m).getD pre.length .nilifc=d:=by simp[List.getD]
  rw[e,okC_mk h.1]
theorem okSh_mk {s:Sh} {v:V} (h:s.ok v=true):s.mk (fun i=>numOfD (cellAt v i)) (fun i=>boolOfD (cellAt v i))=v:=by
 cases s with
 |one c=>
  cases v with
  |d x=>
   have hx:cellAt (.d x) 0=x:=by
    cases x with
    |agg l=>cases c<;>simp[Sh.ok,CS.ok] at h
    |_=>rfl
   simp only[Sh.mk,hx]
   rw[okC_mk h]
  |_=>simp[Sh.ok] at h
 |agg l=>
  cases v with
  |d x=>
   cases x with
   |agg ds=>
    have:=okCells_mk [] (l:=l) (ds:=ds) h
    simpa[Sh.mk,cellAt] using this
   |_=>simp[Sh.ok] at h
  |_=>simp[Sh.ok] at h
 |fn f=>
  cases v with
  |fn g cs=>
   cases cs with
   |nil=>simp only[Sh.ok] at h;have:=Nat.eq_of_beq_eq_true h;subst this;rfl
   |cons _ _=>simp[Sh.ok] at h
  |_=>simp[Sh.ok] at h
theorem okAll_mk: ∀ {l:List Sh} {vs:List V} (pre:List V),okAll l vs=true→mkAll (fun j i=>numOfD (cellAt ((pre++vs).getD j .any) i)) (fun j i=>boolOfD (cellAt ((pre++vs).getD j .any) i)) pre.length l=vs
 |[],[],pre,_=>rfl
 |[],_::_,_,h=>by simp[okAll] at h
 |_::_,[],_,h=>by simp[okAll] at h
 |s::l,v::m,pre,h=>by
  simp only[okAll,Bool.and_eq_true] at h
  have ih:=okAll_mk (pre++[v]) h.2
  simp only[List.append_assoc,List.cons_append,List.nil_append,List.length_append,List.length_cons,List.length_nil] at ih
  simp only[mkAll]
  rw[ih]
  have e:(pre++v::m).getD pre.length .any=v:=by simp[List.getD]
  rw[e,okSh_mk h.1]
def Tot (E:Env) (fuel n:Nat) (f:FuncId) (as rs:List Sh) (ow:List Nat:=[]):Prop:= ∀args,okAll as args=true→okRes rs (callN E fuel n f args) ow=true
structure Entry where
 f:FuncId
 as:List Sh
 rs:List Sh
 ow:List Nat:=[]
def orcT (E:Env) (fuel N:Nat):List Entry→FuncId→List V→Option Ret
 |[],_,_=>none
 |e::l,f,args=>match Nat.beq e.f f with
  |true=>match okAll e.as args with
   |true=>some ⟨mkAll (fun j i=>numOfD (valAt (callN E fuel N f args) j i)) (fun j i=>boolOfD (valAt (callN E fuel N f args) j i)) 0 e.rs,e.ow⟩
   |false=>orcT E fuel N l f args
  |false=>orcT E fuel N l f args
theorem sameNs_eq: ∀ {a b:List Nat},sameNs a b=true→a=b
 |[],[],_=>rfl
 |[],_::_,h=>by simp[sameNs] at h
 |_::_,[],h=>by simp[sameNs] at h
 |a::l,b::m,h=>by
  simp only[sameNs,Bool.and_eq_true] at h
  rw[Nat.eq_of_beq_eq_true h.1,sameNs_eq h.2]
theorem okRes_some {rs:List Sh} {r:Option Ret} {ow:List Nat} (h:okRes rs r ow=true): ∃vs,r=some ⟨vs,ow⟩∧okAll rs vs=true:=by
 unfold okRes at h
 split at h
 ·simp only[Bool.and_eq_true] at h
  rw[sameNs_eq h.2]
  exact⟨_,rfl,h.1⟩
 ·cases h
theorem orcT_ok {E:Env} {fuel N:Nat}: ∀ {l:List Entry},(∀e∈l,Tot E fuel N e.f e.as e.rs e.ow)→ ∀f args r,orcT E fuel N l f args=some r→callN E fuel N f args=some r
 |[],_,f,args,r,h=>by simp[orcT] at h
 |e::l,hl,f,args,r,h=>by
  simp only[orcT] at h
  split at h
  ·rename_i hf
   have hf:=Nat.eq_of_beq_eq_true hf
   subst hf
   split at h
   ·rename_i ha
    obtain⟨vs,h1,h2⟩:=okRes_some (hl e (List.mem_cons_self ..) args ha)
    cases h
    rw[h1]
    have:=okAll_mk [] h2
    simp only[List.nil_append,List.length_nil] at this
    simp only[valAt,this]
   ·exact orcT_ok (fun e he=>hl e (List.mem_cons_of_mem _ he)) _ args r h
  ·exact orcT_ok (fun e he=>hl e (List.mem_cons_of_mem _ he)) f args r h
theorem Tot.mono {E:Env} {fuel fuel' n n' :Nat} {f:FuncId} {as rs:List Sh} {ow:List Nat} (h:Tot E fuel n f as rs ow) (hf:fuel≤fuel') (hn:n≤n'):Tot E fuel' n' f as rs ow:=by
 intro args ha
 have h1:=h args ha
 obtain⟨vs,h2,h3⟩:=okRes_some h1
 rw[callN_mono hf hn h2]
 rw[h2] at h1
 exact h1
theorem Tot.get {E:Env} {fuel n:Nat} {f:FuncId} {as rs:List Sh} {ow:List Nat} (h:Tot E fuel n f as rs ow) {args:List V} (ha:okAll as args=true): ∃vs,callN E fuel n f args=some ⟨vs,ow⟩∧okAll rs vs=true:=
 okRes_some (h args ha)
end Go.VM
