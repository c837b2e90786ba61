/- The machine over values: what an operation does to a state, told apart from the state. -/
import Derived.Test.YthpmkmogoejjpaaGreatDoorVMK
import Derived.Orders
set_option linter.unusedSimpArgs false
set_option linter.unusedVariables false
namespace Go.VM
open Go
structure Same (s s' : St) : Prop where
 look: ∀t,look t s.tmps=look t s'.tmps
 blk: ∀i,getB s i=getB s' i
 len:s.blocks.length=s'.blocks.length
 own: ∀p,hasPl p s.owns=hasPl p s'.owns
theorem Same.refl (s:St):Same s s:=⟨fun _=>rfl,fun _=>rfl,rfl,fun _=>rfl⟩
theorem Same.symm {s s' :St} (h:Same s s'):Same s' s:=⟨fun t=>(h.look t).symm,fun t=>(h.blk t).symm,h.len.symm,fun t=>(h.own t).symm⟩
theorem Same.trans {s s' s'' :St} (h:Same s s') (k:Same s' s''):Same s s'' :=
 ⟨fun t=>(h.look t).trans (k.look t),fun t=>(h.blk t).trans (k.blk t),h.len.trans k.len,fun t=>(h.own t).trans (k.own t)⟩
structure Dl where
 dst:Option Nat
 v:V
 b:Nat→Option Blk→Option Blk
 drop:Pl→Bool
 add:Pl→Bool
 ext:Nat
def dropD (dst:Option Nat) (p:Pl):Bool:=
 match dst with
 |some t=>Pl.ofTmp t p
 |none=>false
structure Eff (δ : Dl) (s s' : St) : Prop where
 look: ∀t,look t s'.tmps=if δ.dst=some t then some δ.v else look t s.tmps
 blk: ∀i,getB s' i=δ.b i (getB s i)
 len:s'.blocks.length=max s.blocks.length δ.ext
 own: ∀p,hasPl p s'.owns=(δ.add p||(hasPl p s.owns && !δ.drop p))
theorem Eff.same {δ:Dl} {s s' a a' :St} (h:Same s a) (e:Eff δ s s') (e' :Eff δ a a'):Same s' a' where
 look t:=by rw[e.look,e'.look,h.look]
 blk i:=by rw[e.blk,e'.blk,h.blk]
 len:=by rw[e.len,e'.len,h.len]
 own p:=by rw[e.own,e'.own,h.own]
theorem Eff.comm {d1 d2:Dl} {s a c b d:St} (hd: ∀t,d1.dst=some t→d2.dst≠some t) (hb: ∀i,d1.b i (d2.b i (getB s i))=d2.b i (d1.b i (getB s i)))
  (h12: ∀p,d1.add p=true→d2.drop p=false) (h21: ∀p,d2.add p=true→d1.drop p=false)
  (e1:Eff d1 s a) (e2:Eff d2 a c) (e3:Eff d2 s b) (e4:Eff d1 b d):Same c d where
 look t:=by
  rw[e2.look,e1.look,e4.look,e3.look]
  by_cases h1:d1.dst=some t
  ·simp[h1,hd t h1]
  ·simp[h1]
 blk i:=by rw[e2.blk,e1.blk,e4.blk,e3.blk,hb]
 len:=by rw[e2.len,e1.len,e4.len,e3.len];omega
 own p:=by
  rw[e2.own,e1.own,e4.own,e3.own]
  have a1:=h12 p
  have a2:=h21 p
  cases h1:d1.add p<;>cases h2:d2.add p<;>cases h3:d1.drop p<;>cases h4:d2.drop p<;>cases h5:hasPl p s.owns<;>simp_all
theorem hasPl_dropPl {f:Pl→Bool} {p:Pl} {l:List Pl}:hasPl p (dropPl f l)=(hasPl p l && !f p):=by
 rw[Bool.eq_iff_iff]
 simp[hasPl_iff,mem_dropPl]
theorem hasPl_consB {p q:Pl} {l:List Pl}:hasPl p (q::l)=(Pl.beq p q||hasPl p l):=by
 simp only[hasPl]
 cases Pl.beq p q<;>rfl
theorem hasPl_append {p:Pl} {l l' :List Pl}:hasPl p (l++l')=(hasPl p l||hasPl p l'):=by
 rw[Bool.eq_iff_iff]
 simp[hasPl_iff]
theorem look_put (s:St) (dst:Option Nat) (v:V) (t:Nat):VM.look t (s.put dst v).tmps=if dst=some t then some v else VM.look t s.tmps:=by
 cases dst with
 |none=>simp[St.put]
 |some d=>
  simp only[St.put,Option.some.injEq]
  by_cases h:d=t
  ·subst h;simp[look_ins_same]
  ·simp[h,look_ins_other (Ne.symm h)]
theorem hasPl_put (s:St) (dst:Option Nat) (v:V) (p:Pl):hasPl p (s.put dst v).owns=(hasPl p s.owns && !dropD dst p):=by
 cases dst with
 |none=>simp[St.put,dropD]
 |some d=>simp[St.put,dropD,hasPl_dropPl]
theorem eff_put (s:St) (dst:Option Nat) (v:V):Eff ⟨dst,v,fun _ b=>b,dropD dst,fun _=>false,0⟩ s (s.put dst v) where
 look t:=look_put s dst v t
 blk i:=getB_put s dst v i
 len:=by simp[blocks_put]
 own p:=by simp[hasPl_put]
def ownP (dst:Option Nat) (yes:Bool) (p:Pl):Bool:=
 match dst with
 |some d=>yes && Pl.beq p (.t d)
 |none=>false
theorem eff_putOwn (s:St) (dst:Option Nat) (v:V) (yes:Bool):Eff ⟨dst,v,fun _ b=>b,dropD dst,ownP dst yes,0⟩ s ((s.put dst v).own dst yes):=by
 have e:=eff_put s dst v
 cases yes with
 |false=>
  have:ownP dst false=fun _=>false:=by funext p;cases dst<;>simp[ownP]
  rw[this];exact e
 |true=>
  cases dst with
  |none=>exact e
  |some d=>
   refine⟨e.look,e.blk,e.len,fun p=> ?_⟩
   simp only[St.own,hasPl_consB,ownP,Bool.true_and]
   rw[e.own];simp
def Dl.comp (d e:Dl):Dl where
 dst:=match e.dst with|some t=>some t|none=>d.dst
 v:=match e.dst with|some _=>e.v|none=>d.v
 b i x:=e.b i (d.b i x)
 drop p:=d.drop p||e.drop p
 add p:=e.add p||(d.add p && !e.drop p)
 ext:=max d.ext e.ext
theorem Eff.comp {d e:Dl} {s m s' :St} (h:d.dst=none∨e.dst=none) (h1:Eff d s m) (h2:Eff e m s'):Eff (d.comp e) s s' where
 look t:=by
  rw[h2.look,h1.look]
  rcases h with h|h
  ·simp only[Dl.comp,h]
   cases he:e.dst<;>simp
  ·simp[Dl.comp,h]
 blk i:=by rw[h2.blk,h1.blk];rfl
 len:=by rw[h2.len,h1.len];simp only[Dl.comp];omega
 own p:=by
  rw[h2.own,h1.own]
  simp only[Dl.comp]
  cases e.add p<;>cases d.add p<;>cases e.drop p<;>cases d.drop p<;>cases hasPl p s.owns<;>rfl
theorem eff_give (s:St) (p q:Pl):Eff ⟨none,.any,fun _ b=>b,Pl.beq p,fun r=>hasPl p s.owns && Pl.beq q r,0⟩ s (s.give p q) where
 look t:=by simp only[St.give];cases hasPl p s.owns<;>simp
 blk i:=by simp only[St.give];cases hasPl p s.owns<;>rfl
 len:=by simp only[St.give];cases hasPl p s.owns<;>simp
 own r:=by
  simp only[St.give]
  cases h:hasPl p s.owns with
  |false=>
   simp only[cond_false,Bool.false_and,Bool.false_or]
   cases h2:Pl.beq p r with
   |true=>have:=Pl.beq_iff.1 h2;subst this;simp[h]
   |false=>simp
  |true=>
   simp only[cond_true,hasPl_consB,hasPl_dropPl,Bool.true_and]
   have:Pl.beq r q=Pl.beq q r:=by
    rw[Bool.eq_iff_iff,Pl.beq_iff,Pl.beq_iff];exact⟨Eq.symm,Eq.symm⟩
   rw[this]
theorem eff_disown (s:St) (f:Pl→Bool):Eff ⟨none,.any,fun _ b=>b,f,fun _=>false,0⟩ s (s.disown f) where
 look t:=by simp[St.disown]
 blk i:=rfl
 len:=by simp[St.disown]
 own p:=by simp[St.disown,hasPl_dropPl]
def frzs:List Nat→St→St
 |[],s=>s
 |i::l,s=>frzs l (s.freeze i)
theorem getB_frz (s:St) (i j:Nat):getB (s.freeze i) j=if j=i then(getB s j).map Blk.freeze else getB s j:=by
 unfold St.freeze
 cases h:getB s i with
 |none=>
  simp only
  by_cases e:j=i
  ·subst e;simp[h]
  ·simp[e]
 |some b=>
  simp only
  have:=getB_setB (B' :=b.freeze) h j
  simp only[St.setB,getB] at this⊢
  rw[this]
  by_cases e:j=i
  ·subst e;simp only[if_true];simp only[getB] at h;rw[h];rfl
  ·simp only[e,if_false]
theorem look_freeze (s:St) (i:Nat):(s.freeze i).tmps=s.tmps:=by
 unfold St.freeze;cases getB s i<;>rfl
theorem len_freeze (s:St) (i:Nat):(s.freeze i).blocks.length=s.blocks.length:=by
 unfold St.freeze;cases getB s i<;>simp
theorem own_freeze (s:St) (i:Nat) (p:Pl) (h:(getB s i).isSome=true):hasPl p (s.freeze i).owns=(hasPl p s.owns && !Pl.ofBlk i p):=by
 unfold St.freeze
 cases e:getB s i with
 |none=>rw[e] at h;cases h
 |some b=>simp[hasPl_dropPl]
def frzD (l:List Nat):Dl:=⟨none,.any,fun i b=>if i∈l then b.map Blk.freeze else b,fun p=>l.any fun i=>Pl.ofBlk i p,fun _=>false,0⟩
theorem freeze_freeze (b:Blk):b.freeze.freeze=b.freeze:=by cases b<;>rfl
theorem eff_frzs: ∀(l:List Nat) (s:St),(∀i∈l,(getB s i).isSome=true)→Eff (frzD l) s (frzs l s)
 |[],s,_=>⟨fun t=>by simp[frzD,frzs],fun i=>by simp[frzD,frzs],by simp[frzD,frzs],fun p=>by simp[frzD,frzs]⟩
 |i::l,s,h=>by
  have h1:=h i (List.mem_cons_self ..)
  have ih:=eff_frzs l (s.freeze i) (fun j hj=>by
   rw[getB_frz]
   have:=h j (List.mem_cons_of_mem _ hj)
   split
   ·simpa using this
   ·exact this)
  refine⟨fun t=> ?_,fun j=> ?_, ?_,fun p=> ?_⟩
  ·simp only[frzs];rw[ih.look,look_freeze];rfl
  ·simp only[frzs];rw[ih.blk,getB_frz]
   simp only[frzD,List.mem_cons]
   by_cases e:j=i
   ·subst e
    have ff: ∀x:Option Blk,(x.map Blk.freeze).map Blk.freeze=x.map Blk.freeze:=fun x=>by
     cases x with
     |none=>rfl
     |some b=>simp[freeze_freeze]
    by_cases hm:j∈l
    ·simp only[hm,if_true,or_true,ff]
    ·simp only[hm,if_true,if_false,or_false]
   ·simp[e]
  ·simp only[frzs];rw[ih.len,len_freeze];rfl
  ·simp only[frzs];rw[ih.own,own_freeze s i p h1]
   simp only[frzD,List.any_cons]
   cases hasPl p s.owns<;>cases Pl.ofBlk i p<;>cases (l.any fun i=>Pl.ofBlk i p)<;>rfl
def tmpsL:List Operand→List Nat
 |[]=>[]
 | .tmp t::l=>t::tmpsL l
 |_::l=>tmpsL l
theorem mem_tmpsL {t:Nat}: ∀ {l:List Operand},t∈tmpsL l↔ .tmp t∈l
 |[]=>by simp[tmpsL]
 |x::l=>by cases x<;>simp[tmpsL,mem_tmpsL (l:=l)]
def isRd (o:Oper):Bool:=
 match o.op with
 | .load .. =>true
 | .convert .. =>true
 | .slice .. =>true
 | .makeInterface .. =>true
 | .call c=>match c.callee with
  | .value _=>true
  | .builtin .append=>true
  |_=>false
 |_=>false
def isWr (o:Oper):Bool:=
 match o.op with
 | .store .. =>true
 | .call c=>match c.callee with
  | .builtin .copy=>true
  | .builtin .clear=>true
  |_=>false
 |_=>false
theorem isRd_notWr {o:Oper} (h:isRd o=true):isWr o=false:=by
 cases hop:o.op with
 |call c=>
  simp only[isRd,isWr,hop] at h⊢
  cases hc:c.callee with
  |builtin b=>rw[hc] at h;cases b<;>first|rfl|cases h
  |value f=>rfl
  |invoke r m=>rfl
 |_=>simp[isRd,isWr,hop] at h⊢
def wT (o:Oper):Option Nat:=
 match o.op with
 | .store _ (.tmp t) _=>some t
 | .call c=>match c.callee with
  | .builtin .copy=>(match c.args.toList with
   | .tmp t::_=>some t
   |_=>none)
  | .builtin .clear=>(match c.args.toList with
   | .tmp t::_=>some t
   |_=>none)
  |_=>none
 |_=>none
theorem wT_isWr {o:Oper} {t:Nat} (h:wT o=some t):isWr o=true:=by
 unfold wT at h
 unfold isWr
 split at h
 ·rename_i ho;rw[ho]
 ·rename_i c ho
  rw[ho]
  split at h
  ·rename_i hc;simp only[hc]
  ·rename_i hc;simp only[hc]
  ·cases h
 ·cases h
def isLoad (o:Oper):Bool:=
 match o.op with
 | .load .. =>true
 |_=>false
def isNew (o:Oper):Bool:=
 match o.op with
 | .alloc .. =>true
 | .box .. =>true
 | .makeSlice .. =>true
 |_=>false
def usesT (o:Oper):List Nat:=
 match o.op with
 | .assign x=>tmpsL [x]
 | .store _ _ y=>tmpsL [y]
 | .call c=>match c.callee with
  | .builtin .append=>(c.args.toList.take 1).map fun| .tmp z=>z|_=>0
  |_=>[]
 |_=>[]
def usesC (o:Oper):Option (Nat×Nat):=
 match o.op with
 | .extract (.tmp x) j=>some (x,j)
 |_=>none
def usesL (L:List Nat) (o:Oper):List Nat:=
 usesT o++match o.op with
  | .move x=>match o.dst with
   |some d=>match hasNat d L with
    |true=>tmpsL [x]
    |false=>[]
   |none=>[]
  |_=>[]
def uses (L:List Nat) (o:Oper):Pl→Bool
 | .t x=>(usesL L o).contains x
 | .c x j=>usesC o==some (x,j)
 | .b _ _=>false
def BlkEq (s s2:St) (i:Nat):Prop:= ∀B,getB s i=some B→ ∃B2,getB s2 i=some B2∧B2.freeze=B.freeze
theorem BlkEq.refl (s:St) (i:Nat):BlkEq s s i:=fun B h=>⟨B,h,rfl⟩
def isConv (o:Oper):Bool:=
 match o.op with
 | .convert .. =>true
 |_=>false
def isSt (L:List Nat) (o:Oper):Bool:=
 match o.op with
 | .call c=>isStC L c o.dst
 |_=>false
theorem isSt_rd {L:List Nat} {o:Oper} (h:isSt L o=true):isRd o=true:=by
 cases hop:o.op with
 |call c=>
  simp only[isSt,hop,isStC] at h
  cases hc:c.callee with
  |value f=>simp[isRd,hop,hc]
  |builtin b=>rw[hc] at h;cases h
  |invoke r m=>rw[hc] at h;cases h
 |_=>simp[isSt,hop] at h
theorem no_cv {L:List Nat} {o:Oper} (h:isRd o=false): ¬(isConv o=true∨isSt L o=true):=by
 rintro (h1|h1)
 ·cases hop:o.op<;>simp[isConv,isRd,hop] at h h1
 ·rw[isSt_rd h1] at h;cases h
structure Agree (C : Ctx) (n : Nat) (o : Oper) (slot : Nat) (s s2 : St) : Prop where
 tm: ∀t,.tmp t∈o.op.operands.toList→look t s2.tmps=look t s.tmps
 rd:isRd o=true→ ∀t,.tmp t∈o.op.operands.toList→ ∀v,look t s.tmps=some v→ ∀i∈refs v,BlkEq s s2 i
 wr: ∀t,wT o=some t→ ∀v,look t s.tmps=some v→ ∀i∈refs v,∀B,getB s i=some B→getB s2 i=some B
 us: ∀p,uses C.lin o p=true→hasPl p s2.owns=hasPl p s.owns
 kept:isNew o=true→getB s slot=none→getB s2 slot=none
 lo:isLoad o=true→inLin C o.dst=true→ ∀b off,hasPl (.b b off) s2.owns=hasPl (.b b off) s.owns
 sl:isSt C.lin o=true→ ∀i,i<n→getB s2 i=getB s i
theorem Agree.refl (C:Ctx) (n:Nat) (o:Oper) (slot:Nat) (s:St):Agree C n o slot s s:=⟨fun _ _=>rfl,fun _ _ _ _ _ i _=>BlkEq.refl s i,fun _ _ _ _ _ _ _ h=>h,fun _ _=>rfl,fun _ h=>h,fun _ _ _ _=>rfl,fun _ _ _=>rfl⟩
theorem evO_same {C:Ctx} {s s2:St} {x:Operand} (h: ∀t,x= .tmp t→look t s2.tmps=look t s.tmps) (t:Nat):evO C s2 t x=evO C s t x:=by
 cases x with
 |tmp u=>exact h u rfl
 |_=>rfl
theorem Agree.evO {o:Oper} {s s2:St} {slot n:Nat} {C0:Ctx} (A:Agree C0 n o slot s s2) {C:Ctx} {t:Nat} {x:Operand} (hx:x∈o.op.operands.toList):VM.evO C s2 t x=VM.evO C s t x:=
 evO_same (fun u hu=>A.tm u (by rw[←hu];exact hx)) t
def isVal (o:Oper):Bool:=
 match o.op with
 | .convert .. =>true
 | .call c=>match c.callee with
  | .value _=>true
  |_=>false
 |_=>false
structure Fits (C : Ctx) (o : Oper) (n : Nat) (fl : Bool) (slot : Nat) (s : St) (δ : Dl) : Prop where
 dst:δ.dst=o.dst
 no:isRd o=false→isWr o=false→isNew o=false→ ∀i x,δ.b i x=x
 nw:isNew o=true→ ∀i x,i≠slot∨x.isSome=true→δ.b i x=x
 rd:isRd o=true→ ∀i,(∀x,δ.b i x=x)∨((∀x,δ.b i x=x.map Blk.freeze)∧(getB s i).isSome=true∧ ∃t v,.tmp t∈o.op.operands.toList∧look t s.tmps=some v∧i∈refs v)
 wr:isWr o=true→ ∀i,(∀x,δ.b i x=x)∨((getB s i).isSome=true∧(fl=true→isNewB C n i=true))
 ld:isLoad o=true→ ∀i x,δ.b i x=x
 cv:isConv o=true∨isSt C.lin o=true→ ∀i x,δ.b i x=x
 som: ∀i x,x.isSome=true→(δ.b i x).isSome=true
 add: ∀p,δ.add p=true→dropD o.dst p=true∨(isWr o=true∧ ∃i j,p= .b i j)
 drop: ∀p,δ.drop p=true→dropD o.dst p=true∨uses C.lin o p=true∨((isRd o=true∧isLoad o=false∧(fl=true→isVal o=false)∨isWr o=true∨isLoad o=true∧inLin C o.dst=true)∧ ∃i j,p= .b i j)
def Cong (C:Ctx) (n i:Nat) (fl:Bool) (o:Oper) (s s1:St):Prop:=
 ∃δ,Fits C o n fl (n+i) s δ∧Eff δ s s1∧ ∀s2,Agree C n o (n+i) s s2→ ∃s2',opD C n i fl o s2=some s2' ∧Eff δ s2 s2'
section
variable {C : Ctx} {n i : Nat} {fl : Bool} {o : Oper} {s s1 : St}
theorem fits_id {δ:Dl} (hd:δ.dst=o.dst) (hb: ∀i x,δ.b i x=x) (ha: ∀p,δ.add p=true→dropD o.dst p=true) (hdr: ∀p,δ.drop p=true→dropD o.dst p=true∨uses C.lin o p=true):
  Fits C o n fl (n+i) s δ:=
 ⟨hd,fun _ _ _=>hb,fun _ i x _=>hb i x,fun _ i=> .inl fun x=>hb i x,fun _ i=> .inl fun x=>hb i x,fun _=>hb,fun _=>hb,fun i x h=>by rw[hb];exact h,fun p hp=> .inl (ha p hp),
  fun p hp=>(hdr p hp).imp id .inl⟩
theorem fits_put (v:V):Fits C o n fl (n+i) s ⟨o.dst,v,fun _ b=>b,dropD o.dst,fun _=>false,0⟩:=
 fits_id rfl (fun _ _=>rfl) (fun _ h=>by simp at h) (fun _ h=> .inl h)
theorem cong_val (v:V) (h: ∀s2,Agree C n o (n+i) s s2→opD C n i fl o s2=some (s2.put o.dst v)) (hs:opD C n i fl o s=some s1):Cong C n i fl o s s1:=by
 have:=h s (Agree.refl C n o _ s)
 rw[hs] at this;cases this
 exact⟨_,fits_put v,eff_put _ _ _,fun s2 A=>⟨_,h s2 A,eff_put _ _ _⟩⟩
theorem cong_own (v:V) (yes:Bool) (h: ∀s2,Agree C n o (n+i) s s2→opD C n i fl o s2=some ((s2.put o.dst v).own o.dst yes)) (hs:opD C n i fl o s=some s1):Cong C n i fl o s s1:=by
 have:=h s (Agree.refl C n o _ s)
 rw[hs] at this;cases this
 refine⟨_,fits_id rfl (fun _ _=>rfl) (fun p h=> ?_) (fun _ h=> .inl h),eff_putOwn _ _ _ yes,fun s2 A=>⟨_,h s2 A,eff_putOwn _ _ _ yes⟩⟩
 cases hd:o.dst with
 |none=>rw[hd] at h;cases h
 |some d=>
  rw[hd] at h
  simp only[ownP,Bool.and_eq_true] at h
  have:=Pl.beq_iff.1 h.2
  subst this
  simp[dropD,Pl.ofTmp]
end
end Go.VM
set_option linter.unusedSimpArgs false
set_option linter.unusedVariables false
namespace Go.VM
open Go
variable {C : Ctx} {n i : Nat} {fl : Bool} {o : Oper} {s s1 : St}
theorem cong_give {v:V} {p:Pl} {d:Nat} (hd:o.dst=some d) (hu:uses C.lin o p=true) (h: ∀s2,Agree C n o (n+i) s s2→opD C n i fl o s2=some ((s2.put o.dst v).give p (.t d)))
  (hs:opD C n i fl o s=some s1):Cong C n i fl o s s1:=by
 have:=h s (Agree.refl C n o _ s)
 rw[hs] at this;cases this
 have key: ∀s2,hasPl p s2.owns=hasPl p s.owns→Eff (Dl.comp ⟨o.dst,v,fun _ b=>b,dropD o.dst,fun _=>false,0⟩ ⟨none,.any,fun _ b=>b,Pl.beq p,fun r=>hasPl p (s.put o.dst v).owns && Pl.beq (.t d) r,0⟩) s2 ((s2.put o.dst v).give p (.t d)):=by
  intro s2 e
  refine Eff.comp (.inr rfl) (eff_put _ _ _) ?_
  have:=eff_give (s2.put o.dst v) p (.t d)
  rw[hasPl_put,e,←hasPl_put s o.dst v] at this
  exact this
 refine⟨_,fits_id rfl (fun _ _=>rfl) (fun r hr=> ?_) (fun r hr=> ?_),key s rfl,fun s2 A=>⟨_,h s2 A,key s2 (A.us p hu)⟩⟩
 ·simp only[Dl.comp,Bool.false_and,Bool.or_false,Bool.and_eq_true] at hr
  have:=Pl.beq_iff.1 hr.2
  subst this
  simp[dropD,hd,Pl.ofTmp]
 ·simp only[Dl.comp,Bool.or_eq_true] at hr
  rcases hr with hr|hr
  ·exact .inl hr
  ·have:=Pl.beq_iff.1 hr
   subst this
   exact .inr hu
theorem cong_move {x:Operand} (hop:o.op= .move x) (h:opD C n i fl o s=some s1):Cong C n i fl o s s1:=by
 have hx:x∈o.op.operands.toList:=by simp[hop,Op.operands]
 have h0:=h
 simp only[opD,hop] at h
 split at h
 ·rename_i v hv
  split at h
  ·rename_i ht
   refine cong_val v (fun s2 A=> ?_) h0
   simp only[opD,hop,A.evO hx,hv,ht]
  ·rename_i ht
   have key:(∃u d,x= .tmp u∧o.dst=some d∧inLin C o.dst=true)∨(∀s2:St,(s2.put o.dst v).pass x o.dst (inLin C o.dst)=s2.put o.dst v):=by
    cases hl:inLin C o.dst with
    |false=>exact .inr fun s2=>by cases x<;>cases o.dst<;>rfl
    |true=>
     cases x with
     |tmp u=>
      cases hd:o.dst with
      |none=>exact .inr fun s2=>rfl
      |some d=>exact .inl ⟨u,d,rfl,rfl,rfl⟩
     |_=>exact .inr fun s2=>by cases o.dst<;>rfl
   rcases key with⟨u,d,rfl,hd,hl⟩|key
   ·have hl2:hasNat d C.lin=true:=by rw[hd] at hl;exact hl
    refine cong_give (v:=v) (p:= .t u) hd (by simp[uses,usesL,usesT,hop,tmpsL,hd,hl2]) (fun s2 A=> ?_) h0
    simp only[opD,hop,A.evO hx,hv,ht]
    rw[hl,hd];rfl
   ·refine cong_val v (fun s2 A=> ?_) h0
    simp only[opD,hop,A.evO hx,hv,ht,key]
 ·cases h
theorem cong_assign {x:Operand} (hop:o.op= .assign x) (h:opD C n i fl o s=some s1):Cong C n i fl o s s1:=by
 have hx:x∈o.op.operands.toList:=by simp[hop,Op.operands]
 have h0:=h
 simp only[opD,evOp,hop] at h
 split at h
 ·rename_i v hv
  have key:(∃u d,x= .tmp u∧o.dst=some d)∨(∀s2:St,(s2.put o.dst v).pass x o.dst true=s2.put o.dst v):=by
   cases x with
   |tmp u=>
    cases hd:o.dst with
    |none=>exact .inr fun s2=>rfl
    |some d=>exact .inl ⟨u,d,rfl,rfl⟩
   |_=>exact .inr fun s2=>rfl
  rcases key with⟨u,d,rfl,hd⟩|key
  ·refine cong_give (v:=v) (p:= .t u) hd (by simp[uses,usesL,usesT,hop,tmpsL]) (fun s2 A=> ?_) h0
   simp only[opD,evOp,hop,A.evO hx,hv,St.pass,hd]
  ·refine cong_val v (fun s2 A=> ?_) h0
   simp only[opD,evOp,hop,A.evO hx,hv,key]
 ·cases h
theorem cong_extract {x:Operand} {j:Nat} (hop:o.op= .extract x j) (h:opD C n i fl o s=some s1):Cong C n i fl o s s1:=by
 have hx:x∈o.op.operands.toList:=by simp[hop,Op.operands]
 have h0:=h
 simp only[opD,evOp,hop] at h
 split at h
 ·rename_i vs hv
  split at h
  ·rename_i v hj
   cases x with
   |tmp u=>
    cases hd:o.dst with
    |none=>
     refine cong_val v (fun s2 A=> ?_) h0
     simp only[opD,evOp,hop,A.evO hx,hv,hj,hd]
    |some d=>
     refine cong_give (v:=v) (p:= .c u j) hd (by simp[uses,usesC,hop]) (fun s2 A=> ?_) h0
     simp only[opD,evOp,hop,A.evO hx,hv,hj,hd]
   |_=>
    refine cong_val v (fun s2 A=> ?_) h0
    simp only[opD,evOp,hop,A.evO hx,hv,hj]
  ·cases h
 ·cases h
theorem cong_pick {c x y:Operand} (hop:o.op= .pick c x y) (h:opD C n i fl o s=some s1):Cong C n i fl o s s1:=by
 have hc:c∈o.op.operands.toList:=by simp[hop,Op.operands]
 have h0:=h
 simp only[opD,evOp,hop] at h
 split at h
 ·rename_i b hb
  cases b with
  |true=>
   have hz:x∈o.op.operands.toList:=by simp[hop,Op.operands]
   simp only at h
   split at h
   ·rename_i v hv
    refine cong_val v (fun s2 A=> ?_) h0
    simp only[opD,evOp,hop,A.evO hc,hb,A.evO hz,hv]
   ·cases h
  |false=>
   have hz:y∈o.op.operands.toList:=by simp[hop,Op.operands]
   simp only at h
   split at h
   ·rename_i v hv
    refine cong_val v (fun s2 A=> ?_) h0
    simp only[opD,evOp,hop,A.evO hc,hb,A.evO hz,hv]
   ·cases h
 ·cases h
theorem cong_nilCheck {x:Operand} (hop:o.op= .nilCheck x) (h:opD C n i fl o s=some s1):Cong C n i fl o s s1:=by
 have hx:x∈o.op.operands.toList:=by simp[hop,Op.operands]
 have h0:=h
 simp only[opD,evOp,hop] at h
 split at h
 ·rename_i f cs hv
  refine cong_val (.fn f cs) (fun s2 A=> ?_) h0
  simp only[opD,evOp,hop,A.evO hx,hv]
 ·rename_i v hne hv
  split at h
  ·rename_i hn
   refine cong_val v (fun s2 A=> ?_) h0
   simp only[opD,evOp,hop,A.evO hx,hv,hn]
  ·cases h
 ·cases h
theorem cong_binOp {op:BinOp} {t u:TypeId} {x y:Operand} (hop:o.op= .binOp op t x y u) (h:opD C n i fl o s=some s1):Cong C n i fl o s s1:=by
 have hx:x∈o.op.operands.toList:=by simp[hop,Op.operands]
 have hy:y∈o.op.operands.toList:=by simp[hop,Op.operands]
 have h0:=h
 simp only[opD,evOp,hop] at h
 split at h
 ·rename_i a b ha hb
  split at h
  ·rename_i r hr
   refine cong_val (.d r) (fun s2 A=> ?_) h0
   simp only[opD,evOp,hop,A.evO hx,A.evO hy,ha,hb,hr]
  ·cases h
 ·cases h
theorem cong_unOp {op:UnOp} {t:TypeId} {x:Operand} (hop:o.op= .unOp op t x) (h:opD C n i fl o s=some s1):Cong C n i fl o s s1:=by
 have hx:x∈o.op.operands.toList:=by simp[hop,Op.operands]
 have h0:=h
 simp only[opD,evOp,hop] at h
 split at h
 ·rename_i a ha
  split at h
  ·rename_i r hr
   refine cong_val (.d r) (fun s2 A=> ?_) h0
   simp only[opD,evOp,hop,A.evO hx,ha,hr]
  ·cases h
 ·cases h
theorem cong_fieldAddr {t:TypeId} {f:Nat} {x:Operand} (hop:o.op= .fieldAddr t x f) (h:opD C n i fl o s=some s1):Cong C n i fl o s s1:=by
 have hx:x∈o.op.operands.toList:=by simp[hop,Op.operands]
 have h0:=h
 simp only[opD,evOp,hop] at h
 split at h
 ·rename_i a ha
  split at h
  ·rename_i r hr
   refine cong_val r (fun s2 A=> ?_) h0
   simp only[opD,evOp,hop,A.evO hx,ha,hr]
  ·cases h
 ·cases h
theorem cong_field {t:TypeId} {f:Nat} {x:Operand} (hop:o.op= .field t x f) (h:opD C n i fl o s=some s1):Cong C n i fl o s s1:=by
 have hx:x∈o.op.operands.toList:=by simp[hop,Op.operands]
 have h0:=h
 simp only[opD,evOp,hop] at h
 split at h
 ·rename_i a ha
  split at h
  ·rename_i r hr
   refine cong_val r (fun s2 A=> ?_) h0
   simp only[opD,evOp,hop,A.evO hx,ha,hr]
  ·cases h
 ·cases h
theorem cong_indexAddr {t:TypeId} {x y:Operand} (hop:o.op= .indexAddr t x y) (h:opD C n i fl o s=some s1):Cong C n i fl o s s1:=by
 have hx:x∈o.op.operands.toList:=by simp[hop,Op.operands]
 have hy:y∈o.op.operands.toList:=by simp[hop,Op.operands]
 have h0:=h
 simp only[opD,evOp,hop] at h
 split at h
 ·rename_i a b ha hb
  split at h
  ·rename_i k hk
   split at h
   ·rename_i r hr
    refine cong_val r (fun s2 A=> ?_) h0
    simp only[opD,evOp,hop,A.evO hx,A.evO hy,ha,hb,hk,hr]
   ·cases h
  ·cases h
 ·cases h
theorem cong_index {t:TypeId} {x y:Operand} (hop:o.op= .index t x y) (h:opD C n i fl o s=some s1):Cong C n i fl o s s1:=by
 have hx:x∈o.op.operands.toList:=by simp[hop,Op.operands]
 have hy:y∈o.op.operands.toList:=by simp[hop,Op.operands]
 have h0:=h
 simp only[opD,evOp,hop] at h
 split at h
 ·rename_i a b ha hb
  split at h
  ·rename_i k hk
   split at h
   ·rename_i r hr
    refine cong_val r (fun s2 A=> ?_) h0
    simp only[opD,evOp,hop,A.evO hx,A.evO hy,ha,hb,hk,hr]
   ·cases h
  ·cases h
 ·cases h
theorem partsAt_same {s2:St} {place:Nat→Option (Nat×Nat)}: ∀ {l:List (Nat×Operand)},(∀t p,p∈l→evO C s2 t p.2=evO C s t p.2)→partsAt C s2 place l=partsAt C s place l
 |[],_=>rfl
 |(i,x)::l,h=>by
  simp only[partsAt]
  rw[partsAt_same (l:=l) fun t p hp=>h t p (List.mem_cons_of_mem _ hp)]
  cases place i with
  |none=>rfl
  |some r=>
   obtain⟨off,ft⟩:=r
   simp only[h ft (i,x) (List.mem_cons_self ..)]
theorem cong_build {t:TypeId} {ps:Array (Nat×Operand)} (hop:o.op= .build t ps) (h:opD C n i fl o s=some s1):Cong C n i fl o s s1:=by
 have hx: ∀p∈ps.toList,p.2∈o.op.operands.toList:=fun p hp=>by
  simp only[hop,Op.operands,List.mem_map];exact⟨p,hp,rfl⟩
 have e: ∀s2,Agree C n o (n+i) s s2→evBuild C s2 t ps.toList=evBuild C s t ps.toList:=fun s2 A=>by
  have:=fun place=>partsAt_same (C:=C) (s:=s) (s2:=s2) (place:=place) (l:=ps.toList) fun t p hp=>A.evO (hx p hp)
  simp only[evBuild,this]
 have h0:=h
 simp only[opD,evOp,hop] at h
 split at h
 ·rename_i a ha
  refine cong_val a (fun s2 A=> ?_) h0
  simp only[opD,evOp,hop,e s2 A,ha]
 ·cases h
theorem cong_buildSlice {t:TypeId} {k:Nat} {ps:Array (Nat×Operand)} (hop:o.op= .buildSlice t k ps) (h:opD C n i fl o s=some s1):Cong C n i fl o s s1:=by
 have hx: ∀p∈ps.toList,p.2∈o.op.operands.toList:=fun p hp=>by
  simp only[hop,Op.operands,List.mem_map];exact⟨p,hp,rfl⟩
 have e: ∀s2,Agree C n o (n+i) s s2→litCells C s2 t k ps.toList=litCells C s t k ps.toList:=fun s2 A=>by
  have:=fun place=>partsAt_same (C:=C) (s:=s) (s2:=s2) (place:=place) (l:=ps.toList) fun t p hp=>A.evO (hx p hp)
  simp only[litCells,this]
 have h0:=h
 simp only[opD,evOp,hop] at h
 split at h
 ·rename_i cs j hc
  split at h
  ·rename_i r hr
   refine cong_own (.d r) true (fun s2 A=> ?_) h0
   simp only[opD,evOp,hop,e s2 A,hc,hr]
  ·cases h
 ·cases h
theorem evCaps_same {s2:St}: ∀ {l:List Operand},(∀t x,x∈l→evO C s2 t x=evO C s t x)→evCaps C s2 l=evCaps C s l
 |[],_=>rfl
 |x::l,h=>by
  simp only[evCaps]
  rw[evCaps_same (l:=l) fun t p hp=>h t p (List.mem_cons_of_mem _ hp),h 0 x (List.mem_cons_self ..)]
theorem cong_makeFunc {f:FuncId} {first caps:Array Operand} (hop:o.op= .makeFunc (.func f) first caps) (h:opD C n i fl o s=some s1):Cong C n i fl o s s1:=by
 have e: ∀s2,Agree C n o (n+i) s s2→evCaps C s2 caps.toList=evCaps C s caps.toList:=fun s2 A=>evCaps_same fun t x hx=>A.evO (by
  simp only[hop,Op.operands,Array.toList_append,List.mem_append];exact .inr hx)
 have h0:=h
 simp only[opD,evOp,hop] at h
 split at h
 ·rename_i cs h1 h2
  refine cong_val (.fn f cs) (fun s2 A=> ?_) h0
  simp only[opD,evOp,hop,e s2 A,h1,h2]
 ·cases h
end Go.VM
set_option linter.unusedSimpArgs false
set_option linter.unusedVariables false
namespace Go.VM
open Go
variable {C : Ctx} {n i : Nat} {fl : Bool} {o : Oper} {s s1 s2 : St}
theorem evO_refs {t:Nat} {x:Operand} {p:V} (h:evO C s t x=some p):(∃u,x= .tmp u∧look u s.tmps=some p)∨refs p=[]:=by
 cases x with
 |tmp u=>exact .inl ⟨u,rfl,h⟩
 |const c=>
  simp only[evO] at h
  split at h
  ·cases h;exact .inr (by simp[refs])
  ·cases h
 |global g=>cases h;exact .inr (by simp[refs])
 |func f=>cases h;exact .inr (by simp[refs,refsL])
theorem Agree.blk {slot:Nat} (A:Agree C n o slot s s2) (hr:isRd o=true) {t:Nat} {x:Operand} {p:V} (hx:x∈o.op.operands.toList) (h:VM.evO C s t x=some p):
  ∀i∈refs p,BlkEq s s2 i:=by
 intro i hi
 rcases evO_refs h with⟨u,rfl,hu⟩|h0
 ·exact A.rd hr u hx p hu i hi
 ·rw[h0] at hi;simp at hi
theorem refsO_same {x:Operand} (h: ∀t,x= .tmp t→look t s2.tmps=look t s.tmps):refsO s2 x=refsO s x:=by
 cases x with
 |tmp u=>simp only[refsO,h u rfl]
 |_=>rfl
theorem BlkEq.cells {b:Nat} {fz:Bool} {cs:List V} (h:BlkEq s s2 b) (hb:getB s b=some (.cells fz cs)): ∃fz2,getB s2 b=some (.cells fz2 cs):=by
 obtain⟨B2,h1,h2⟩:=h _ hb
 cases B2 with
 |cells fz2 cs2=>
  simp only[Blk.freeze,Blk.cells.injEq,true_and] at h2
  exact⟨fz2,by rw[h1,h2]⟩
 |ints _ _ _=>simp[Blk.freeze] at h2
theorem BlkEq.ints {b:Nat} {fz:Bool} {k:IntKind} {xs:List Int} (h:BlkEq s s2 b) (hb:getB s b=some (.ints fz k xs)): ∃fz2,getB s2 b=some (.ints fz2 k xs):=by
 obtain⟨B2,h1,h2⟩:=h _ hb
 cases B2 with
 |ints fz2 k2 xs2=>
  simp only[Blk.freeze,Blk.ints.injEq,true_and] at h2
  exact⟨fz2,by rw[h1,h2.1,h2.2]⟩
 |cells _ _=>simp[Blk.freeze] at h2
theorem evLoad_same {t:Nat} {p v:V} (h:evLoad C s t p=some v) (hb: ∀i∈refs p,BlkEq s s2 i):evLoad C s2 t p=some v:=by
 cases p with
 |ptr b off=>
  have hb' :=hb b (by simp[refs])
  simp only[evLoad] at h⊢
  split at h
  ·cases h
  ·split at h
   ·rename_i e
    obtain⟨fz2,h2⟩:=hb'.cells e
    simp only[h2];exact h
   ·rename_i e
    obtain⟨fz2,h2⟩:=hb'.ints e
    simp only[h2];exact h
   ·cases h
 |d x=>cases x<;>(simp only[evLoad] at h⊢;exact h)
 |_=>simp only[evLoad] at h⊢;exact h
theorem load_op (hl:inLin C o.dst=false) {t:TypeId} {x:Operand} (hop:o.op= .load t x) (st:St):evOp C none o st=(match evO C st 0 x with
  |some p=>match evLoad C st t p with
   |some v=>some (st.put o.dst v)
   |none=>none
  |none=>none):=by
 simp only[evOp,hop]
 cases h1:evO C st 0 x with
 |none=>rfl
 |some p=>
  simp only
  cases h2:evLoad C st t p with
  |none=>rfl
  |some v=>
   simp only[hl,Bool.false_and]
   cases p<;>cases o.dst<;>rfl
theorem load_op2 (hl:inLin C o.dst=true) {t:TypeId} {x:Operand} (hop:o.op= .load t x) (st:St):evOp C none o st=(match evO C st 0 x with
  |some p=>match evLoad C st t p with
   |some v=>match p,o.dst,isSl v with
    | .ptr b off,some d,true=>some ((st.put o.dst v).give (.b b off) (.t d))
    |_,_,_=>some (st.put o.dst v)
   |none=>none
  |none=>none):=by
 simp only[evOp,hop,hl,Bool.true_and]
 rfl
theorem give_none {p:V} {d:Option Nat} {f:Bool} (st:St):(¬ ∃b off d',p= .ptr b off∧d=some d' ∧f=true)→(match p,d,f with
  | .ptr b off,some d,true=>some (st.give (.b b off) (.t d))
  |_,_,_=>some st)=some st:=by
 intro hc
 split
 ·exact absurd ⟨_,_,_,rfl,rfl,rfl⟩ hc
 ·rfl
theorem cong_load {t:TypeId} {x:Operand} (hop:o.op= .load t x) (h:opD C n i fl o s=some s1):Cong C n i fl o s s1:=by
 have hx:x∈o.op.operands.toList:=by simp[hop,Op.operands]
 have h0:=h
 simp only[opD,hop] at h
 split at h
 ·cases h
 ·rename_i hfl
  have e: ∀s2,Agree C n o (n+i) s s2→refsO s2 x=refsO s x:=fun s2 A=>refsO_same fun t ht=>A.tm t (by rw[←ht];exact hx)
  cases hl:inLin C o.dst with
  |false=>
   rw[load_op hl hop] at h
   split at h
   ·rename_i p hp
    split at h
    ·rename_i v hv
     refine cong_val v (fun s2 A=> ?_) h0
     simp only[opD,hop,e s2 A,hfl]
     rw[load_op hl hop,A.evO hx,hp]
     simp only[evLoad_same hv (A.blk (by simp[isRd,hop]) hx hp)]
    ·cases h
   ·cases h
  |true=>
   rw[load_op2 hl hop] at h
   split at h
   ·rename_i p hp
    split at h
    ·rename_i v hv
     by_cases hc: ∃b off d,p= .ptr b off∧o.dst=some d∧isSl v=true
     ·obtain⟨b,off,d,rfl,hd,hsl⟩:=hc
      have hw:isLoad o=true:=by simp[isLoad,hop]
      have hall: ∀s2,Agree C n o (n+i) s s2→opD C n i fl o s2=some ((s2.put o.dst v).give (.b b off) (.t d)):=fun s2 A=>by
       simp only[opD,hop,e s2 A,hfl]
       rw[load_op2 hl hop,A.evO hx,hp]
       simp only[evLoad_same hv (A.blk (by simp[isRd,hop]) hx hp),hd,hsl]
      have:=hall s (Agree.refl C n o _ s)
      rw[h0] at this;cases this
      have key: ∀s2,hasPl (.b b off) s2.owns=hasPl (.b b off) s.owns→Eff (Dl.comp ⟨o.dst,v,fun _ b=>b,dropD o.dst,fun _=>false,0⟩ ⟨none,.any,fun _ b=>b,Pl.beq (.b b off),fun r=>hasPl (.b b off) (s.put o.dst v).owns && Pl.beq (.t d) r,0⟩) s2 ((s2.put o.dst v).give (.b b off) (.t d)):=by
       intro s2 e
       refine Eff.comp (.inr rfl) (eff_put _ _ _) ?_
       have:=eff_give (s2.put o.dst v) (.b b off) (.t d)
       rw[hasPl_put,e,←hasPl_put s o.dst v] at this
       exact this
      refine⟨_,⟨?_,fun h3=>(by simp[isRd,hop] at h3),fun h3=>(by simp[isNew,hop] at h3),fun _ j=> .inl fun x=>rfl,fun h3=>(by simp[isWr,hop] at h3),fun _ j x=>rfl,fun _ j x=>rfl,fun j x hx=>hx,fun p hp=> ?_,fun p hp=> ?_⟩,key s rfl,fun s2 A=>⟨_,hall s2 A,key s2 (A.lo hw hl b off)⟩⟩
      ·simp only[Dl.comp]
      ·simp only[Dl.comp,Bool.false_and,Bool.or_false,Bool.and_eq_true] at hp
       have:=Pl.beq_iff.1 hp.2
       subst this
       exact .inl (by simp[dropD,hd,Pl.ofTmp])
      ·simp only[Dl.comp,Bool.or_eq_true] at hp
       rcases hp with hp|hp
       ·exact .inl hp
       ·have:=Pl.beq_iff.1 hp
        subst this
        exact .inr (.inr ⟨.inr (.inr ⟨hw,hl⟩),b,off,rfl⟩)
     ·refine cong_val v (fun s2 A=> ?_) h0
      simp only[opD,hop,e s2 A,hfl]
      rw[load_op2 hl hop,A.evO hx,hp]
      simp only[evLoad_same hv (A.blk (by simp[isRd,hop]) hx hp)]
      exact give_none (s2.put o.dst v) hc
    ·cases h
   ·cases h
theorem getB_pad (s:St) (m j:Nat):getB (s.pad m) j=getB s j:=by
 simp only[getB,St.pad]
 rcases Nat.lt_or_ge j s.blocks.length with h|h
 ·rw[List.getElem?_append_left h]
 ·rw[List.getElem?_append_right h,List.getElem?_eq_none (l:=s.blocks) h]
  rw[List.getElem?_replicate]
  by_cases h2:j-s.blocks.length<m-s.blocks.length<;>simp[h2]
theorem len_pad (s:St) (m:Nat):(s.pad m).blocks.length=max s.blocks.length m:=by
 simp only[St.pad,List.length_append,List.length_replicate];omega
def newAt (m:Nat) (B:Blk) (i:Nat) (x:Option Blk):Option Blk:=
 match x with
 |some b=>some b
 |none=>if i=m then some B else none
theorem eff_new (s:St) (m:Nat) (B:Blk) (hs:getB s m=none):Eff ⟨none,.any,newAt m B,fun _=>false,fun _=>false,m+1⟩ s ((s.pad (m+1)).new (some m) B).2 where
 look t:=by simp[St.new,St.pad]
 blk j:=by
  have hm:m<(s.pad (m+1)).blocks.length:=by rw[len_pad];omega
  simp only
  by_cases h:j=m
  ·subst h
   rw[hs]
   simp[getB,St.new,hm,newAt]
  ·have:newAt m B j (getB s j)=getB s j:=by
    unfold newAt
    cases getB s j<;>simp[h]
   rw[this,←getB_pad s (m+1) j]
   simp only[getB,St.new]
   rw[List.getElem?_set_ne (Ne.symm h)]
 len:=by simp only[St.new,List.length_set,len_pad]
 own p:=by simp[St.new,St.pad]
theorem cong_new {v:V} {B:Blk} (hg:getB s (n+i)=none) (hn:isNew o=true) (hr:isRd o=false) (hw:isWr o=false)
  (h: ∀s2,Agree C n o (n+i) s s2→opD C n i fl o s2=some (((s2.pad (n+i+1)).new (some (n+i)) B).2.put o.dst v)) (hs:opD C n i fl o s=some s1):Cong C n i fl o s s1:=by
 have hnl:isLoad o=false:=by
  cases hop:o.op<;>simp[isLoad,isNew,hop] at hn⊢
 have:=h s (Agree.refl C n o _ s)
 rw[hs] at this;cases this
 have key: ∀s2,getB s2 (n+i)=none→Eff (Dl.comp ⟨none,.any,newAt (n+i) B,fun _=>false,fun _=>false,n+i+1⟩ ⟨o.dst,v,fun _ b=>b,dropD o.dst,fun _=>false,0⟩) s2
   (((s2.pad (n+i+1)).new (some (n+i)) B).2.put o.dst v):=fun s2 h=>Eff.comp (.inl rfl) (eff_new _ _ _ h) (eff_put _ _ _)
 refine⟨_,⟨?_,fun _ _ h3=>(by rw[hn] at h3;cases h3),fun _ j x hj=> ?_,fun h3=>(by rw[hr] at h3;cases h3),fun h3=>(by rw[hw] at h3;cases h3),fun h3=>(by rw[hnl] at h3;cases h3),fun h3=>absurd h3 (no_cv hr),fun j x hx=> ?_,fun p hp=> ?_,fun p hp=> ?_⟩,key s hg,fun s2 A=>⟨_,h s2 A,key s2 (A.kept hn hg)⟩⟩
 ·simp only[Dl.comp];cases o.dst<;>rfl
 ·simp only[Dl.comp,newAt]
  cases x with
  |some b=>rfl
  |none=>
   rcases hj with hj|hj
   ·simp[hj]
   ·cases hj
 ·cases x with
  |some b=>rfl
  |none=>cases hx
 ·simp[Dl.comp] at hp
 ·simp only[Dl.comp,Bool.false_or] at hp;exact .inl hp
theorem cong_alloc {e:TypeId} (hop:o.op= .alloc e) (h:opD C n i fl o s=some s1):Cong C n i fl o s s1:=by
 have h0:=h
 simp only[opD,hop] at h
 split at h
 ·rename_i hg
  simp only[evOp,hop] at h
  split at h
  ·rename_i ti hti
   refine cong_new (hg:=hg) (v:= .ptr (n+i) 0) (B:= .cells false (ti.zero.map .d)) (by simp[isNew,hop]) (by simp[isRd,hop]) (by simp[isWr,hop]) (fun s2 A=> ?_) h0
   simp only[opD,hop,A.kept (by simp[isNew,hop]) hg,evOp,hti,St.new]
  ·cases h
 ·cases h
theorem cong_box {e:TypeId} {x:Operand} (hop:o.op= .box e x) (h:opD C n i fl o s=some s1):Cong C n i fl o s s1:=by
 have hx:x∈o.op.operands.toList:=by simp[hop,Op.operands]
 have ep: ∀(st:St) (t:Nat),evO C (st.pad (n+i+1)) t x=evO C st t x:=fun st t=>evO_same (fun _ _=>rfl) t
 have h0:=h
 simp only[opD,hop] at h
 split at h
 ·rename_i hg
  simp only[evOp,hop,ep] at h
  split at h
  ·rename_i v hv
   split at h
   ·rename_i cs hcs
    refine cong_new (hg:=hg) (v:= .ptr (n+i) 0) (B:= .cells false cs) (by simp[isNew,hop]) (by simp[isRd,hop]) (by simp[isWr,hop]) (fun s2 A=> ?_) h0
    simp only[opD,hop,A.kept (by simp[isNew,hop]) hg,evOp,ep,A.evO hx,hv,hcs,St.new]
   ·cases h
  ·cases h
 ·cases h
theorem evMake_same {m:Nat} {t:Nat} {k:Int} {v:V} {st st' :St} (h:evMake C st (some m) t k=some (v,st')):
  ∃B,∀st2:St,evMake C st2 (some m) t k=some (v,(st2.new (some m) B).2):=by
 simp only[evMake] at h
 split at h
 ·rename_i e' he'
  split at h
  ·rename_i j hj
   cases hc:(decide (0≤k) && decide (k≤9223372036854775807) && decide ((j.bytes:Int)*k≤281474976710656) && Nat.blt 0 j.size) with
   |false=>rw[hc] at h;cases h
   |true=>
    rw[hc,cond_true] at h
    split at h
    ·rename_i q hq
     cases h
     exact⟨_,fun st2=>by simp only[evMake,he',hj,hc,cond_true,hq];rfl⟩
    ·rename_i hne
     cases h
     refine⟨.cells false (rep k.toNat (j.zero.map .d)),fun st2=> ?_⟩
     simp only[evMake,he',hj,hc,cond_true]
     cases hq:j.k<;>first|rfl|exact absurd hq (hne _)
  ·cases h
 ·cases h
theorem cong_makeSlice {t:TypeId} {l c:Operand} (hop:o.op= .makeSlice t l c) (h:opD C n i fl o s=some s1):Cong C n i fl o s s1:=by
 have hx:l∈o.op.operands.toList:=by simp[hop,Op.operands]
 have hy:c∈o.op.operands.toList:=by simp[hop,Op.operands]
 have ep: ∀(st:St) (t:Nat) (x:Operand),evO C (st.pad (n+i+1)) t x=evO C st t x:=fun st t x=>evO_same (fun _ _=>rfl) t
 have h0:=h
 simp only[opD,hop] at h
 split at h
 ·rename_i hg
  simp only[evOp,hop,ep] at h
  split at h
  ·rename_i k1 a k2 b ha hb
   split at h
   ·rename_i hab
    split at h
    ·rename_i v st' hm
     obtain⟨B,hB⟩:=evMake_same hm
     refine cong_new (hg:=hg) (v:=v) (B:=B) (by simp[isNew,hop]) (by simp[isRd,hop]) (by simp[isWr,hop]) (fun s2 A=> ?_) h0
     simp only[opD,hop,A.kept (by simp[isNew,hop]) hg,evOp,ep,A.evO hx,A.evO hy,ha,hb,hab,hB]
    ·cases h
   ·cases h
  ·cases h
 ·cases h
theorem evConv_same {a b:Nat} {x:V} {r:V×Bool} (h:evConv C s a b x=some r) (hb: ∀i∈refs x,BlkEq s s2 i):evConv C s2 a b x=some r:=by
 rw[←h]
 have key:(∃m off len cap sz,x= .mu m off len cap sz)∨evConv C s2 a b x=evConv C s a b x:=by
  simp only[evConv]
  cases C.tt a with
  |none=>exact .inr rfl
  |some ti=>
   cases C.tt b with
   |none=>exact .inr rfl
   |some tj=>
    obtain⟨k,_,_,_,_,_⟩:=tj
    cases x with
    |mu m off len cap sz=>exact .inl ⟨_,_,_,_,_,rfl⟩
    |d y=>cases k<;>cases y<;>first|exact .inr rfl|(rename_i q _ _;cases q<;>exact .inr rfl)
    |_=>cases k<;>exact .inr rfl
 rcases key with⟨m,off,len,cap,sz,rfl⟩|key
 ·have hb' :=hb m (by simp[refs])
  simp only[evConv] at h⊢
  cases e1:C.tt a with
  |none=>rfl
  |some ti=>
   cases e2:C.tt b with
   |none=>rfl
   |some tj=>
    obtain⟨k,_,_,_,_,_⟩:=tj
    obtain⟨k',_,_,_,_,_⟩:=ti
    cases k with
    |str=>
     cases k' with
     |slice e=>
      rw[e1,e2] at h
      simp only at h⊢
      split at h
      ·rename_i q4 q5
       obtain⟨fz2,h2⟩:=hb'.ints q5
       simp only[q4,h2,q5]
      ·cases h
     |_=>rfl
    |_=>rfl
 ·exact key
theorem cong_convert {a b:TypeId} {x:Operand} (hop:o.op= .convert a b x) (h:opD C n i fl o s=some s1):Cong C n i fl o s s1:=by
 have hx:x∈o.op.operands.toList:=by simp[hop,Op.operands]
 have h0:=h
 simp only[opD,hop] at h
 split at h
 ·cases h
 ·rename_i hfl
  have e: ∀s2,Agree C n o (n+i) s s2→noRefs s2 [x]=noRefs s [x]:=fun s2 A=>by
   simp only[noRefs,refsO_same (s:=s) (s2:=s2) (x:=x) fun t ht=>A.tm t (by rw[←ht];exact hx)]
  simp only[evOp,hop] at h
  split at h
  ·rename_i v hv
   split at h
   ·rename_i r own hr
    refine cong_own r own (fun s2 A=> ?_) h0
    simp only[opD,hop,e s2 A,hfl]
    simp only[evOp,hop,A.evO hx,hv,evConv_same hr (A.blk (by simp[isRd,hop]) hx hv)]
   ·cases h
  ·cases h
theorem BlkEq.len {b:Nat} (h:BlkEq s s2 b) (hs:(getB s b).isSome=true):blkLen (getB s2 b)=blkLen (getB s b):=by
 cases e:getB s b with
 |none=>rw[e] at hs;cases hs
 |some B=>
  cases B with
  |cells fz cs=>obtain⟨_,h2⟩:=h.cells e;rw[h2];rfl
  |ints fz k xs=>obtain⟨_,h2⟩:=h.ints e;rw[h2];rfl
theorem evSlice_same {t:Nat} {x:V} {lo:Int} {hi mx:Option Int} {r:V×Bool} (h:evSlice C s t x lo hi mx=some r) (hb: ∀i∈refs x,BlkEq s s2 i):evSlice C s2 t x lo hi mx=some r:=by
 cases x with
 |ptr m off=>
  have hb' :=hb m (by simp[refs])
  simp only[evSlice] at h⊢
  split at h
  ·rename_i nn q1 q2 q3 q4 q5 q6 q7
   split at h
   ·rename_i j hj
    cases e:getB s m with
    |none=>
     rw[e] at h
     simp only[blkLen,Nat.le_zero,Nat.ble_eq] at h
     cases hc:(Nat.blt 0 j.size && decide (0≤lo) && decide (lo≤hi.getD nn) && decide (hi.getD nn≤(nn:Int)) && Nat.ble (off+nn*j.size) 0 && Nat.ble nn 1000000) with
     |false=>rw[hc] at h;cases h
     |true=>
      rw[hc] at h
      have hc' :=hc
      simp only[Bool.and_eq_true,decide_eq_true_eq,Nat.blt_eq,Nat.ble_eq] at hc'
      have h0:off+nn*j.size=0:=by omega
      have:Nat.ble (off+nn*j.size) (blkLen (getB s2 m))=true:=by rw[h0];rfl
      rw[this]
      rw[h0] at hc
      have e0:Nat.ble 0 0=true:=rfl
      rw[e0] at hc
      rw[hc];exact h
    |some B=>
     have:=hb'.len (by simp[e])
     rw[this];exact h
   ·cases h
  ·cases h
 |d y=>
  rw[←h]
  simp only[evSlice]
  cases y<;>rfl
 |_=>
  rw[←h]
  simp only[evSlice]
end Go.VM
