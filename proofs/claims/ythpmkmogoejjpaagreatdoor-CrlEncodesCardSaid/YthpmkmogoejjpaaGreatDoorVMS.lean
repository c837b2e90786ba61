/- The machine over values: equations to reckon by, for regions whose order is open. -/
import Derived.Test.YthpmkmogoejjpaaGreatDoorVMR
set_option linter.unusedSimpArgs false
set_option linter.unusedVariables false
namespace Go.VM
open Go
section
variable (C : Ctx) (fuel : Nat) (st : St)
theorem ev_regionD (id:Nat) (ops:Array Oper):ev C fuel (.region id ops true) st=bindS (evD (C.nolin (wOf st (C.live (id+300000))) (C.live (id+250000))) ops st.blocks.length (C.live (id+200000)) 0 ops.toList st) fun st=>some (.normal,st.close (C.reg id)):=by
 show (match evD (C.nolin (wOf st (C.live (id+300000))) (C.live (id+250000))) ops st.blocks.length (C.live (id+200000)) 0 ops.toList st with|some st=>some (Ex.normal,st.close (C.reg id))|none=>none)=_
 unfold bindS
 cases evD (C.nolin (wOf st (C.live (id+300000))) (C.live (id+250000))) ops st.blocks.length (C.live (id+200000)) 0 ops.toList st<;>rfl
variable (W L : List Nat)
theorem nolin_wr:(C.nolin W L).wr=W:=(rfl)
theorem nolin_tt:(C.nolin W L).tt=C.tt:=(rfl)
theorem nolin_glob:(C.nolin W L).glob=C.glob:=(rfl)
theorem nolin_call:(C.nolin W L).call=C.call:=(rfl)
theorem nolin_lin:(C.nolin W L).lin=L:=(rfl)
variable (ops : Array Oper) (n i : Nat) (fl : List Nat) (f : Bool) (l : List Oper) (dst : Option Tmp) (op : Op) (ty : TypeId) (pos : String) (af : Array Edge)
theorem evD_nil:evD C ops n fl i [] st=some st:=(rfl)
theorem evD_cons:evD C ops n fl i (⟨dst,op,ty,pos,af,none⟩::l) st=bindS (opD C n i (hasNat i fl) ⟨dst,op,ty,pos,af,none⟩ st) fun st=>evD C ops n fl (i+1) l st:=by
 show (match opD C n i (hasNat i fl) ⟨dst,op,ty,pos,af,none⟩ st with|some st=>evD C ops n fl (i+1) l st|none=>none)=_
 unfold bindS
 cases opD C n i (hasNat i fl) ⟨dst,op,ty,pos,af,none⟩ st<;>rfl
theorem evD_guard (g:Nat×Bool):evD C ops n fl i (⟨dst,op,ty,pos,af,some g⟩::l) st=
  bindV (wantedV ops st ⟨dst,op,ty,pos,af,some g⟩) fun b=>condE b (bindS (opD C n i (hasNat i fl) ⟨dst,op,ty,pos,af,none⟩ st) fun st=>evD C ops n fl (i+1) l st) (evD C ops n fl (i+1) l (st.put dst .skip)):=by
 have e:opD C n i (hasNat i fl) ⟨dst,op,ty,pos,af,some g⟩ st=opD C n i (hasNat i fl) ⟨dst,op,ty,pos,af,none⟩ st:=rfl
 show (match wantedV ops st ⟨dst,op,ty,pos,af,some g⟩ with
  |some true=>(match opD C n i (hasNat i fl) ⟨dst,op,ty,pos,af,some g⟩ st with|some st=>evD C ops n fl (i+1) l st|none=>none)
  |some false=>evD C ops n fl (i+1) l (st.put dst .skip)
  |none=>none)=_
 rw[e]
 rcases wantedV ops st ⟨dst,op,ty,pos,af,some g⟩ with _|b
 ·rfl
 ·cases b
  ·rfl
  ·show _=bindS _ _
   unfold bindS
   cases opD C n i (hasNat i fl) ⟨dst,op,ty,pos,af,none⟩ st<;>rfl
variable (g : Option (Nat × Bool))
theorem od_assign (x:Operand):opD C n i f ⟨dst,.assign x,ty,pos,af,g⟩ st=evOp C none ⟨dst,.assign x,ty,pos,af,g⟩ st:=(rfl)
theorem od_pick (x y z:Operand):opD C n i f ⟨dst,.pick x y z,ty,pos,af,g⟩ st=evOp C none ⟨dst,.pick x y z,ty,pos,af,g⟩ st:=(rfl)
theorem od_build (t:TypeId) (ps:Array (Nat×Operand)):opD C n i f ⟨dst,.build t ps,ty,pos,af,g⟩ st=evOp C none ⟨dst,.build t ps,ty,pos,af,g⟩ st:=(rfl)
theorem od_nilCheck (x:Operand):opD C n i f ⟨dst,.nilCheck x,ty,pos,af,g⟩ st=evOp C none ⟨dst,.nilCheck x,ty,pos,af,g⟩ st:=(rfl)
theorem od_binOp (o:BinOp) (t u:TypeId) (x y:Operand):opD C n i f ⟨dst,.binOp o t x y u,ty,pos,af,g⟩ st=evOp C none ⟨dst,.binOp o t x y u,ty,pos,af,g⟩ st:=(rfl)
theorem od_unOp (o:UnOp) (t:TypeId) (x:Operand):opD C n i f ⟨dst,.unOp o t x,ty,pos,af,g⟩ st=evOp C none ⟨dst,.unOp o t x,ty,pos,af,g⟩ st:=(rfl)
theorem od_convert (s t:TypeId) (x:Operand):opD C n i f ⟨dst,.convert s t x,ty,pos,af,g⟩ st=condE (f && !(noRefs st [x])) none (evOp C none ⟨dst,.convert s t x,ty,pos,af,g⟩ st):=by
 show (match f && !(noRefs st [x]) with|true=>none|false=>evOp C none ⟨dst,.convert s t x,ty,pos,af,g⟩ st)=_
 cases f && !(noRefs st [x])<;>rfl
theorem od_makeInterface (t:TypeId) (x:Operand):opD C n i f ⟨dst,.makeInterface t x,ty,pos,af,g⟩ st=evOp C none ⟨dst,.makeInterface t x,ty,pos,af,g⟩ st:=(rfl)
theorem od_makeFunc (x:Fn) (p q:Array Operand):opD C n i f ⟨dst,.makeFunc x p q,ty,pos,af,g⟩ st=evOp C none ⟨dst,.makeFunc x p q,ty,pos,af,g⟩ st:=(rfl)
theorem od_slice (t:TypeId) (x:Operand) (p q r:Option Operand):opD C n i f ⟨dst,.slice t x p q r,ty,pos,af,g⟩ st=evOp C none ⟨dst,.slice t x p q r,ty,pos,af,g⟩ st:=(rfl)
theorem od_fieldAddr (t:TypeId) (x:Operand) (k:Nat):opD C n i f ⟨dst,.fieldAddr t x k,ty,pos,af,g⟩ st=evOp C none ⟨dst,.fieldAddr t x k,ty,pos,af,g⟩ st:=(rfl)
theorem od_field (t:TypeId) (x:Operand) (k:Nat):opD C n i f ⟨dst,.field t x k,ty,pos,af,g⟩ st=evOp C none ⟨dst,.field t x k,ty,pos,af,g⟩ st:=(rfl)
theorem od_indexAddr (t:TypeId) (x y:Operand):opD C n i f ⟨dst,.indexAddr t x y,ty,pos,af,g⟩ st=evOp C none ⟨dst,.indexAddr t x y,ty,pos,af,g⟩ st:=(rfl)
theorem od_index (t:TypeId) (x y:Operand):opD C n i f ⟨dst,.index t x y,ty,pos,af,g⟩ st=evOp C none ⟨dst,.index t x y,ty,pos,af,g⟩ st:=(rfl)
theorem od_extract (x:Operand) (k:Nat):opD C n i f ⟨dst,.extract x k,ty,pos,af,g⟩ st=evOp C none ⟨dst,.extract x k,ty,pos,af,g⟩ st:=(rfl)
theorem od_call (c:Call):opD C n i f ⟨dst,.call c,ty,pos,af,g⟩ st=condE (isStC C.lin c dst) (condE f none (stillOp C n dst c st)) (condE (noHand C st c dst) (condE (callFl f st c) none (condE (drawC C n f st c) (evOp C none ⟨dst,.call c,ty,pos,af,g⟩ st) none)) none):=by
 show (match isStC C.lin c dst with|true=>(match f with|true=>none|false=>stillOp C n dst c st)|false=>(match noHand C st c dst with|true=>(match callFl f st c with|true=>none|false=>(match drawC C n f st c with|true=>evOp C none ⟨dst,.call c,ty,pos,af,g⟩ st|false=>none))|false=>none))=_
 cases isStC C.lin c dst
 ·cases noHand C st c dst<;>cases callFl f st c<;>cases drawC C n f st c<;>rfl
 ·cases f<;>rfl
theorem drawC_val (x:Operand) (as:Array Operand) (ts:Array TypeId):drawC C n f st {callee:= .value x,args:=as,argTypes:=ts}=true:=(rfl)
theorem drawC_len (as:Array Operand) (ts:Array TypeId):drawC C n f st {callee:= .builtin .len,args:=as,argTypes:=ts}=true:=(rfl)
theorem drawC_min (as:Array Operand) (ts:Array TypeId):drawC C n f st {callee:= .builtin .min,args:=as,argTypes:=ts}=true:=(rfl)
theorem drawC_max (as:Array Operand) (ts:Array TypeId):drawC C n f st {callee:= .builtin .max,args:=as,argTypes:=ts}=true:=(rfl)
theorem drawC_append (x y:Operand) (ts:Array TypeId):drawC C n f st {callee:= .builtin .append,args:= #[x,y],argTypes:=ts}= !isMuO st x:=(rfl)
theorem drawC_copy (x y:Operand) (ts:Array TypeId):drawC C n f st {callee:= .builtin .copy,args:= #[x,y],argTypes:=ts}=(noRefs st [y] && !(f && !(allGe C n (refsO st x)))):=(rfl)
theorem drawC_clear (x:Operand) (ts:Array TypeId):drawC C n f st {callee:= .builtin .clear,args:= #[x],argTypes:=ts}= !(f && !(allGe C n (refsO st x))):=(rfl)
def isMuV:Option V→Bool
 |some (.mu _ _ _ _ _)=>true
 |_=>false
theorem isMuO_tmp (t:Nat):isMuO st (.tmp t)=isMuV (look t st.tmps):=by
 cases h:look t st.tmps with
 |none=>simp only[isMuO,h,isMuV]
 |some v=>cases v<;>simp only[isMuO,h,isMuV]
theorem isMuO_const (v:Value):isMuO st (.const v)=false:=(rfl)
theorem isMuV_d (x:D):isMuV (some (.d x))=false:=(rfl)
theorem isMuV_mu (i o l c s:Nat):isMuV (some (.mu i o l c s))=true:=(rfl)
theorem od_arrayAt (t:TypeId) (x:Operand):opD C n i f ⟨dst,.sliceToArrayPointer t x,ty,pos,af,g⟩ st=evOp C none ⟨dst,.sliceToArrayPointer t x,ty,pos,af,g⟩ st:=(rfl)
theorem callFl_val (x:Operand) (as:Array Operand) (ts:Array TypeId):callFl f st {callee:= .value x,args:=as,argTypes:=ts}=(f && !noRefs st as.toList):=(rfl)
theorem callFl_builtin (b:Builtin) (as:Array Operand) (ts:Array TypeId):callFl f st {callee:= .builtin b,args:=as,argTypes:=ts}=false:=(rfl)
theorem noRefs_nil:noRefs st []=true:=(rfl)
theorem noRefs_cons (x:Operand) (xs:List Operand):noRefs st (x::xs)=condE (refsO st x).isEmpty (noRefs st xs) false:=by
 simp only[noRefs]
 cases refsO st x<;>rfl
theorem od_move (x:Operand):opD C n i f ⟨dst,.move x,ty,pos,af,g⟩ st=bindV (evO C st ty x) fun v=>condE (isTup v) (some (st.put dst v)) (some ((st.put dst v).pass x dst (inLin C dst))):=by
 show (match evO C st ty x with|some v=>(match isTup v with|true=>some (st.put dst v)|false=>some ((st.put dst v).pass x dst (inLin C dst)))|none=>none)=_
 unfold bindV
 rcases evO C st ty x with _|v
 ·rfl
 ·simp only;cases isTup v<;>rfl
theorem od_load (t:TypeId) (x:Operand):opD C n i f ⟨dst,.load t x,ty,pos,af,g⟩ st=condE (f && !(allLt C n (refsO st x))) none (evOp C none ⟨dst,.load t x,ty,pos,af,g⟩ st):=by
 show (match f && !(allLt C n (refsO st x)) with|true=>none|false=>evOp C none ⟨dst,.load t x,ty,pos,af,g⟩ st)=_
 cases f && !(allLt C n (refsO st x))<;>rfl
theorem od_store (t:TypeId) (x y:Operand):opD C n i f ⟨dst,.store t x y,ty,pos,af,g⟩ st=condE (f && !(allGe C n (refsO st x))) none (evOp C none ⟨dst,.store t x y,ty,pos,af,g⟩ st):=by
 show (match f && !(allGe C n (refsO st x)) with|true=>none|false=>evOp C none ⟨dst,.store t x y,ty,pos,af,g⟩ st)=_
 cases f && !(allGe C n (refsO st x))<;>rfl
theorem od_alloc (e:TypeId):opD C n i f ⟨dst,.alloc e,ty,pos,af,g⟩ st=condE (getB st (n+i)).isSome none (evOp C (some (n+i)) ⟨dst,.alloc e,ty,pos,af,g⟩ (st.pad (n+i+1))):=by
 show (match getB st (n+i) with|none=>evOp C (some (n+i)) ⟨dst,.alloc e,ty,pos,af,g⟩ (st.pad (n+i+1))|some _=>none)=_
 cases getB st (n+i)<;>rfl
theorem od_box (e:TypeId) (x:Operand):opD C n i f ⟨dst,.box e x,ty,pos,af,g⟩ st=condE (getB st (n+i)).isSome none (evOp C (some (n+i)) ⟨dst,.box e x,ty,pos,af,g⟩ (st.pad (n+i+1))):=by
 show (match getB st (n+i) with|none=>evOp C (some (n+i)) ⟨dst,.box e x,ty,pos,af,g⟩ (st.pad (n+i+1))|some _=>none)=_
 cases getB st (n+i)<;>rfl
theorem od_makeSlice (t:TypeId) (x y:Operand):opD C n i f ⟨dst,.makeSlice t x y,ty,pos,af,g⟩ st=condE (getB st (n+i)).isSome none (evOp C (some (n+i)) ⟨dst,.makeSlice t x y,ty,pos,af,g⟩ (st.pad (n+i+1))):=by
 show (match getB st (n+i) with|none=>evOp C (some (n+i)) ⟨dst,.makeSlice t x y,ty,pos,af,g⟩ (st.pad (n+i+1))|some _=>none)=_
 cases getB st (n+i)<;>rfl
theorem od_buildSlice (t k:Nat) (ps:Array (Nat×Operand)):opD C n i f ⟨dst,.buildSlice t k ps,ty,pos,af,g⟩ st=bindV (litCells C st t k ps.toList) fun r=>bindV (litV k r.1 r.2) fun d=>some ((st.put dst (.d d)).own dst true):=by
 show (match litCells C st t k ps.toList with|some (cs,j)=>(match litV k cs j with|some r=>some ((st.put dst (.d r)).own dst true)|none=>none)|none=>none)=_
 unfold bindV
 rcases litCells C st t k ps.toList with _|⟨cs,j⟩
 ·rfl
 ·simp only;cases litV k cs j<;>rfl
end
theorem nolin_callP (C:Ctx) (W L:List Nat):(C.nolin W L).callP=C.callP:=(rfl)
theorem isStC_val (L:List Nat) (x:Operand) (as:Array Operand) (ts:Array TypeId) (d:Nat):isStC L {callee:= .value x,args:=as,argTypes:=ts} (some d)=hasNat (d+3000000) L:=(rfl)
theorem isStC_none (L:List Nat) (x:Operand) (as:Array Operand) (ts:Array TypeId):isStC L {callee:= .value x,args:=as,argTypes:=ts} none=false:=(rfl)
theorem isStC_builtin (L:List Nat) (b:Builtin) (as:Array Operand) (ts:Array TypeId) (dst:Option Nat):isStC L {callee:= .builtin b,args:=as,argTypes:=ts} dst=false:=(rfl)
theorem evStill_nil (C:Ctx) (st:St) (ts:List Nat):evStill C st [] ts=some []:=(rfl)
theorem evStill_cons (C:Ctx) (st:St) (x:Operand) (xs:List Operand) (t:Nat) (ts:List Nat):evStill C st (x::xs) (t::ts)=bindV (evO C st t x) fun v=>condE (okStill v) (bindV (evStill C st xs ts) fun vs=>some (v::vs)) none:=by
 show (match evO C st t x with
  |some v=>(match okStill v,evStill C st xs ts with
   |true,some vs=>some (v::vs)
   |_,_=>none)
  |none=>none)=_
 rcases evO C st t x with _|v
 ·rfl
 ·simp only[bindV_some]
  cases okStill v with
  |false=>rfl
  |true=>rcases evStill C st xs ts with _|us<;>rfl
theorem okStill_ptr (i o:Nat):okStill (.ptr i o)=true:=(rfl)
theorem okStill_d (x:D):okStill (.d x)=true:=(rfl)
theorem firstN_zero (l:List (Option Blk)):firstN 0 l=[]:=by cases l<;>rfl
theorem firstN_cons (n:Nat) (b:Option Blk) (l:List (Option Blk)):firstN (n+1) (b::l)=b::firstN n l:=(rfl)
theorem isB_t (t:Nat):Pl.isB (.t t)=false:=(rfl)
theorem isB_c (t j:Nat):Pl.isB (.c t j)=false:=(rfl)
theorem isB_b (t j:Nat):Pl.isB (.b t j)=true:=(rfl)
def stillAt (C:Ctx) (bl:List (Option Blk)) (idx:List Nat) (g:FuncId) (args:List V):Option Ret:=stillOn C bl idx g args
theorem stillOn_eq (C:Ctx) (bl:List (Option Blk)) (idx:List Nat) (g:FuncId) (args:List V):stillOn C bl idx g args=
  bindV (renL (idxOf idx) args) fun xs=>bindV (renBs (idxOf idx) (getOs bl idx)) fun bs=>condE (nodupB idx && allSome (getOs bl idx)) (bindV (C.callP g xs bs []) fun h=>stillEnd h bs) none:=by
 unfold stillOn bindV condE
 rcases renL (idxOf idx) args with _|xs
 ·rfl
 ·simp only
  rcases renBs (idxOf idx) (getOs bl idx) with _|bs
  ·rfl
  ·simp only
   cases nodupB idx with
   |false=>rfl
   |true=>
    simp only[cond_true,Bool.true_and]
    cases allSome (getOs bl idx) with
    |false=>rfl
    |true=>simp only;rcases C.callP g xs bs [] with _|h<;>rfl
section
variable (C : Ctx) (bl : List (Option Blk)) (g : FuncId) (args : List V) (i j k m : Nat)
theorem stillAt_1:stillAt C bl [i] g args=stillOn C bl [i] g args:=(rfl)
theorem stillAt_2:stillAt C bl [i,j] g args=stillOn C bl [i,j] g args:=(rfl)
theorem stillAt_3:stillAt C bl [i,j,k] g args=stillOn C bl [i,j,k] g args:=(rfl)
theorem stillAt_4:stillAt C bl [i,j,k,m] g args=stillOn C bl [i,j,k,m] g args:=(rfl)
end
theorem stillIdx_eq (bl:List (Option Blk)) (args:List V):stillIdx bl args=reach bl bl (newOf [] (refsL args)) (newOf [] (refsL args)):=(rfl)
theorem stillEnd_mk (vs:List V) (ow:List Nat) (bs' :List (Option Blk)) (bo:List Pl) (bs:List (Option Blk)):stillEnd ⟨vs,ow,bs',bo⟩ bs=condE (eqBs bs' bs && (refsL vs).isEmpty) (some ⟨vs,ow⟩) none:=by
 simp only[stillEnd,condE]
 cases eqBs bs' bs<;>cases refsL vs<;>rfl
theorem stillOp_func (C:Ctx) (n:Nat) (dst:Option Nat) (g:FuncId) (as:Array Operand) (ts:Array TypeId) (st:St):stillOp C n dst {callee:= .value (.func g),args:=as,argTypes:=ts} st=
  bindV (evStill C st as.toList ts.toList) fun vs=>bindV (stillAt C (firstN n st.blocks) (stillIdx (firstN n st.blocks) vs) g vs) fun r=>some ((st.disown Pl.isB).putRet dst r):=by
 simp only[stillOp,stillRet,calleeOf,bindV,stillAt]
 rcases evStill C st as.toList ts.toList with _|vs
 ·rfl
 ·simp only
  rcases stillOn C (firstN n st.blocks) (stillIdx (firstN n st.blocks) vs) g vs with _|r<;>rfl
theorem noHand_builtin (C:Ctx) (st:St) (b:Builtin) (as:Array Operand) (ts:Array TypeId) (dst:Option Nat):noHand C st {callee:= .builtin b,args:=as,argTypes:=ts} dst=true:=(rfl)
theorem noHand_func (C:Ctx) (st:St) (f:FuncId) (as:Array Operand) (ts:Array TypeId) (dst:Option Nat):noHand C st {callee:= .value (.func f),args:=as,argTypes:=ts} dst= !(byPtr C st as.toList [] dst):=(rfl)
theorem noHand_tmp (C:Ctx) (st:St) (t:Nat) (as:Array Operand) (ts:Array TypeId) (dst:Option Nat):noHand C st {callee:= .value (.tmp t),args:=as,argTypes:=ts} dst=
  (match calleeOf st (.tmp t) with|some p=> !(byPtr C st as.toList p.2 dst)|none=>true):=by
 simp only[noHand]
 cases calleeOf st (.tmp t)<;>rfl
theorem pad_mk (l:List (Nat×V)) (bs:List (Option Blk)) (os:List Pl) (m:Nat):St.pad ⟨l,bs,os⟩ m=⟨l,bs++List.replicate (m-bs.length) none,os⟩:=(rfl)
section
variable (k : Nat) (cs : List V) (s b : Nat) (z : List D) (c q : Bool)
theorem litV_int (ik:IntKind):litV k cs ⟨.int ik,s,b,z,c,q⟩=bindV (allI ik cs) fun ns=>some (.nums ik false ns):=by
 unfold litV bindV;simp only;cases allI ik cs<;>rfl
theorem litV_bool:litV k cs ⟨.bool,s,b,z,c,q⟩=bindV (allD cs) fun ds=>some (.sl s false (chunk s k ds)):=by
 unfold litV bindV;simp only;cases allD cs<;>rfl
theorem litV_str:litV k cs ⟨.str,s,b,z,c,q⟩=bindV (allD cs) fun ds=>some (.sl s false (chunk s k ds)):=by
 unfold litV bindV;simp only;cases allD cs<;>rfl
theorem litV_ptr:litV k cs ⟨.ptr,s,b,z,c,q⟩=bindV (allD cs) fun ds=>some (.sl s false (chunk s k ds)):=by
 unfold litV bindV;simp only;cases allD cs<;>rfl
theorem litV_slice (e:Nat):litV k cs ⟨.slice e,s,b,z,c,q⟩=bindV (allD cs) fun ds=>some (.sl s false (chunk s k ds)):=by
 unfold litV bindV;simp only;cases allD cs<;>rfl
theorem litV_struct (fs:List (Nat×Nat)):litV k cs ⟨.struct fs,s,b,z,c,q⟩=bindV (allD cs) fun ds=>some (.sl s false (chunk s k ds)):=by
 unfold litV bindV;simp only;cases allD cs<;>rfl
theorem litV_arr (m e:Nat):litV k cs ⟨.arr m e,s,b,z,c,q⟩=bindV (allD cs) fun ds=>some (.sl s false (chunk s k ds)):=by
 unfold litV bindV;simp only;cases allD cs<;>rfl
theorem litV_iface:litV k cs ⟨.iface,s,b,z,c,q⟩=bindV (allD cs) fun ds=>some (.sl s false (chunk s k ds)):=by
 unfold litV bindV;simp only;cases allD cs<;>rfl
end
theorem refsO_tmp (st:St) (t:Nat):refsO st (.tmp t)=(match look t st.tmps with|some v=>refs v|none=>[]):=(rfl)
theorem allLt_nil (C:Ctx) (n:Nat):allLt C n []=true:=(rfl)
theorem allGe_nil (C:Ctx) (n:Nat):allGe C n []=true:=(rfl)
theorem allLt_cons (C:Ctx) (n i:Nat) (l:List Nat):allLt C n (i::l)=condE (isNewB C n i) false (allLt C n l):=(rfl)
theorem allGe_cons (C:Ctx) (n i:Nat) (l:List Nat):allGe C n (i::l)=condE (isNewB C n i) (allGe C n l) false:=(rfl)
theorem isNewB_eq (C:Ctx) (n i:Nat):isNewB C n i=(decide (n≤i)||hasNat i C.wr):=by
 simp only[isNewB,nble_dec]
theorem wOf_nil (st:St):wOf st []=[]:=(rfl)
theorem wOf_cons (st:St) (t:Nat) (l:List Nat):wOf st (t::l)=(match look t st.tmps with|some v=>refs v|none=>[])++wOf st l:=(rfl)
attribute [simp ↓] ev_regionD evD_nil evD_cons evD_guard
attribute [simp] nolin_callP isStC_val isStC_none isStC_builtin evStill_nil evStill_cons okStill_ptr okStill_d firstN_zero firstN_cons isB_t isB_c isB_b stillOn_eq stillAt_1 stillAt_2 stillAt_3 stillAt_4 stillIdx_eq stillEnd_mk stillOp_func eqBs_self
attribute [simp] drawC_val drawC_len drawC_min drawC_max drawC_append drawC_copy drawC_clear isMuO_tmp isMuO_const isMuV_d isMuV_mu od_arrayAt callFl_val callFl_builtin noRefs_nil noRefs_cons nolin_wr isNewB_eq wOf_nil wOf_cons nolin_tt nolin_glob nolin_call nolin_lin od_assign od_pick od_build od_nilCheck od_binOp od_unOp od_convert od_makeInterface od_makeFunc od_slice od_fieldAddr od_field od_indexAddr od_index
 noHand_builtin noHand_func noHand_tmp od_extract od_call od_move od_load od_store od_alloc od_box od_makeSlice od_buildSlice pad_mk litV_int litV_bool litV_str litV_ptr litV_slice litV_struct litV_arr litV_iface refsO_tmp allLt_nil allGe_nil allLt_cons allGe_cons
end Go.VM
set_option linter.unusedSimpArgs false
set_option linter.unusedVariables false
namespace Go.VM
open Go
def Ctx.with (C:Ctx) (g:FuncId→List V→Option Ret) (gp:FuncId→List V→List (Option Blk)→List Pl→Option Hand):Ctx:= {C with call:=g,callP:=gp}
variable {C : Ctx} {g : FuncId → List V → Option Ret} {gp : FuncId → List V → List (Option Blk) → List Pl → Option Hand} {s s1 : St}
theorem wEvO (st:St) (t:Nat) (x:Operand):evO (C.with g gp) st t x=evO C st t x:=by cases x<;>rfl
theorem wAllLt (n:Nat): ∀l:List Nat,allLt (C.with g gp) n l=allLt C n l
 |[]=>rfl
 |i::l=>by simp only[allLt,wAllLt n l];rfl
theorem wAllGe (n:Nat): ∀l:List Nat,allGe (C.with g gp) n l=allGe C n l
 |[]=>rfl
 |i::l=>by simp only[allGe,wAllGe n l];rfl
theorem wAsD (st:St) (v:V):asD (C.with g gp) st v=asD C st v:=by cases v<;>rfl
theorem wArgV (st:St) (v:V):argV (C.with g gp) st v=argV C st v:=by cases v<;>rfl
theorem wArgs: ∀(xs:List Operand) (ts:List Nat) (st:St),evArgs (C.with g gp) st xs ts=evArgs C st xs ts
 |[],_,_=>rfl
 |x::xs,ts,st=>by
  simp only[evArgs,wEvO]
  cases evO C st (ts.headD 0) x with
  |none=>rfl
  |some v=>
   simp only[wArgV]
   cases argV C st v with
   |none=>rfl
   |some r=>obtain⟨u,s'⟩:=r;simp only[wArgs xs]
theorem wArgP (raw:Bool) (st:St) (v:V):argP (C.with g gp) raw st v=argP C raw st v:=by
 cases v with
 |mu i o l c s=>cases raw<;>simp only[argP,wArgV]
 |_=>simp only[argP,wArgV]
theorem wArgsP (raw:Bool): ∀(xs:List Operand) (ts:List Nat) (st:St),evArgsP (C.with g gp) raw st xs ts=evArgsP C raw st xs ts
 |[],_,_=>rfl
 |x::xs,ts,st=>by
  simp only[evArgsP,wEvO]
  cases evO C st (ts.headD 0) x with
  |none=>rfl
  |some v=>
   simp only[wArgP]
   cases argP C raw st v with
   |none=>rfl
   |some r=>obtain⟨u,s'⟩:=r;simp only[wArgsP raw xs]
theorem wParts (st:St) (pl:Nat→Option (Nat×Nat)): ∀l:List (Nat×Operand),partsAt (C.with g gp) st pl l=partsAt C st pl l
 |[]=>rfl
 |(i,x)::l=>by
  simp only[partsAt,wEvO,wParts st pl l]
  rfl
theorem wBuild (st:St) (t:Nat) (l:List (Nat×Operand)):evBuild (C.with g gp) st t l=evBuild C st t l:=by
 simp only[evBuild,wParts];rfl
theorem wLit (st:St) (t n:Nat) (l:List (Nat×Operand)):litCells (C.with g gp) st t n l=litCells C st t n l:=by
 simp only[litCells,wParts];rfl
theorem wCaps (st:St): ∀l:List Operand,evCaps (C.with g gp) st l=evCaps C st l
 |[]=>rfl
 |x::l=>by simp only[evCaps,wEvO,wCaps st l]
theorem wBnd (st:St) (x:Option Operand) (d:Int):bnd (C.with g gp) st x d=bnd C st x d:=by
 cases x with
 |none=>rfl
 |some o=>simp only[bnd,wEvO]
theorem wLoad (st:St) (t:Nat) (p:V):evLoad (C.with g gp) st t p=evLoad C st t p:=rfl
theorem wStore (st:St) (t:Nat) (p v:V):evStore (C.with g gp) st t p v=evStore C st t p v:=rfl
theorem wConv (st:St) (s d:Nat) (v:V):evConv (C.with g gp) st s d v=evConv C st s d v:=rfl
theorem wSlice (st:St) (t:Nat) (x:V) (lo:Int) (hi mx:Option Int):evSlice (C.with g gp) st t x lo hi mx=evSlice C st t x lo hi mx:=rfl
theorem wFA (s f:Nat) (p:V):evFieldAddr (C.with g gp) s f p=evFieldAddr C s f p:=rfl
theorem wF (s f:Nat) (p:V):evField (C.with g gp) s f p=evField C s f p:=rfl
theorem wIA (t:Nat) (p:V) (i:Int):evIndexAddr (C.with g gp) t p i=evIndexAddr C t p i:=rfl
theorem wI (t:Nat) (p:V) (i:Int):evIndex (C.with g gp) t p i=evIndex C t p i:=rfl
theorem wMake (st:St) (slot:Option Nat) (t:Nat) (n:Int):evMake (C.with g gp) st slot t n=evMake C st slot t n:=rfl
theorem wBin (op:BinOp) (t:Nat) (ox oy:Operand) (x y:V):evBin (C.with g gp) op t ox oy x y=evBin C op t ox oy x y:=rfl
theorem wBase (st:St) (x:Operand) (v:V):baseD (C.with g gp) st x v=baseD C st x v:=by cases v<;>rfl
theorem wArr (t:Nat) (v:V):evArrayAt (C.with g gp) t v=evArrayAt C t v:=rfl
theorem wDrawC (n:Nat) (fl:Bool) (st:St) (c:Call):drawC (C.with g gp) n fl st c=drawC C n fl st c:=by
 simp only[drawC,wAllGe]
theorem wBuiltin (st:St) (dst:Option Nat) (b:Builtin) (as:List Operand) (ts:List Nat):evBuiltin (C.with g gp) st dst b as ts=evBuiltin C st dst b as ts:=by
 unfold evBuiltin
 simp only[wEvO,wBase]
 rfl
theorem wLin (d:Option Nat):inLin (C.with g gp) d=inLin C d:=rfl
theorem mono_op (hg:(∀f a r,C.call f a=some r→g f a=some r)∧ ∀f a bs bo r,C.callP f a bs bo=some r→gp f a bs bo=some r) {slot:Option Nat} {o:Oper} (h:evOp C slot o s=some s1):evOp (C.with g gp) slot o s=some s1:=by
 have same:(∀c,o.op≠ .call c)→evOp (C.with g gp) slot o s=evOp C slot o s:=by
  intro hne
  cases hop:o.op with
  |call c=>exact absurd hop (hne c)
  |makeFunc f a b=>cases f<;>simp only[evOp,hop,wCaps]<;>rfl
  |_=>simp only[evOp,hop,wEvO,wBuild,wLit,wCaps,wBnd,wLoad,wStore,wConv,wSlice,wFA,wF,wIA,wI,wMake,wBin,wLin,wAsD,wArr]<;>rfl
 cases hop:o.op with
 |call c=>
  simp only[evOp,hop] at h⊢
  cases hc:c.callee with
  |builtin b=>rw[hc] at h;simp only[wBuiltin] at h⊢;exact h
  |invoke r m=>rw[hc] at h;cases h
  |value f=>
   rw[hc] at h
   simp only[wArgs] at h⊢
   split at h
   ·rename_i q caps hq
    try simp only[hq]
    have eb:byPtr (C.with g gp) s c.args.toList caps o.dst=byPtr C s c.args.toList caps o.dst:=rfl
    rw[eb]
    split at h
    ·rename_i hbp
     try simp only
     split at h
     ·rename_i vs st hv
      try simp only[hv]
      simp only[callWith] at h⊢
      split at h
      ·rename_i e1
       try simp only[e1]
       split at h
       ·rename_i r hr
        have:=hg.1 _ _ _ hr
        simp only[Ctx.with,this]
        exact h
       ·cases h
      ·cases h
     ·cases h
    ·rename_i hbp
     try simp only
     have er:rawHint (C.with g gp) o.dst=rawHint C o.dst:=rfl
     rw[er,wArgsP]
     split at h
     ·rename_i vs st hv
      try simp only[hv]
      simp only[handOver,handOn] at h⊢
      split at h
      ·rename_i xs bs e1 e2 e3
       try simp only[e1,e2,e3]
       split at h
       ·rename_i r hr
        have:=hg.2 _ _ _ _ _ hr
        simp only[Ctx.with,this]
        exact h
       ·cases h
      ·cases h
     ·cases h
   ·cases h
 |_=>rw[same (by intro c;rw[hop];intro h;cases h)];exact h
theorem mono_ops (hg:(∀f a r,C.call f a=some r→g f a=some r)∧ ∀f a bs bo r,C.callP f a bs bo=some r→gp f a bs bo=some r) {ops:Array Oper}: ∀ {l:List Oper} {s s1:St},evOps C ops l s=some s1→evOps (C.with g gp) ops l s=some s1
 |[],s,s1,h=>h
 |o::l,s,s1,h=>by
  simp only[evOps] at h⊢
  split at h
  ·split at h
   ·rename_i h2
    simp only[mono_op hg h2]
    exact mono_ops hg h
   ·cases h
  ·exact mono_ops hg h
  ·cases h
theorem wStill (st:St): ∀(xs:List Operand) (ts:List Nat),evStill (C.with g gp) st xs ts=evStill C st xs ts
 |[],_=>rfl
 |x::xs,ts=>by simp only[evStill,wEvO,wStill st xs]
theorem mono_still (hg:(∀f a r,C.call f a=some r→g f a=some r)∧ ∀f a bs bo r,C.callP f a bs bo=some r→gp f a bs bo=some r) {n:Nat} {dst:Option Nat} {c:Call} (h:stillOp C n dst c s=some s1):stillOp (C.with g gp) n dst c s=some s1:=by
 unfold stillOp at h⊢
 split at h
 rotate_left
 ·cases h
 rename_i r hr
 have:stillRet (C.with g gp) (firstN n s.blocks) s c=some r:=by
  unfold stillRet at hr⊢
  split at hr
  rotate_left
  ·cases hr
  rename_i f hc
  try simp only[hc]
  split at hr
  rotate_left
  ·cases hr
  rename_i q hq
  try simp only[hq]
  rw[wStill]
  split at hr
  rotate_left
  ·cases hr
  rename_i vs hvs
  try simp only[hvs]
  unfold stillOn at hr⊢
  split at hr
  rotate_left
  ·cases hr
  rename_i xs bs e1 e2 e3
  try simp only[e1,e2,e3]
  split at hr
  rotate_left
  ·cases hr
  rename_i hh hcall
  have e4:(C.with g gp).callP q xs bs []=some hh:=hg.2 _ _ _ _ _ hcall
  simp only[e4]
  exact hr
 simp only[this]
 exact h
theorem mono_opD (hg:(∀f a r,C.call f a=some r→g f a=some r)∧ ∀f a bs bo r,C.callP f a bs bo=some r→gp f a bs bo=some r) {n i:Nat} {fl:Bool} {o:Oper} (h:opD C n i fl o s=some s1):opD (C.with g gp) n i fl o s=some s1:=by
 cases hop:o.op with
 |alloc e=>
  simp only[opD,hop] at h⊢
  split at h
  ·exact mono_op hg h
  ·cases h
 |box e x=>
  simp only[opD,hop] at h⊢
  split at h
  ·exact mono_op hg h
  ·cases h
 |makeSlice t l c=>
  simp only[opD,hop] at h⊢
  split at h
  ·exact mono_op hg h
  ·cases h
 |move x=>simp only[opD,hop,wEvO] at h⊢;exact h
 |buildSlice t k ps=>simp only[opD,hop,wLit] at h⊢;exact h
 |load t x=>
  simp only[opD,hop,wAllLt] at h⊢
  split at h
  ·cases h
  ·exact mono_op hg h
 |store t x y=>
  simp only[opD,hop,wAllGe] at h⊢
  split at h
  ·cases h
  ·exact mono_op hg h
 |convert a b x=>
  simp only[opD,hop] at h⊢
  split at h
  ·cases h
  ·exact mono_op hg h
 |call c=>
  simp only[opD,hop] at h⊢
  have eb:noHand (C.with g gp) s c o.dst=noHand C s c o.dst:=rfl
  have el:(C.with g gp).lin=C.lin:=rfl
  rw[eb,wDrawC,el]
  split at h
  ·split at h
   ·cases h
   ·exact mono_still hg h
  ·split at h
   ·split at h
    ·cases h
    ·split at h
     ·exact mono_op hg h
     ·cases h
   ·cases h
 |_=>simp only[opD,hop] at h⊢;exact mono_op hg h
theorem mono_evD (hg:(∀f a r,C.call f a=some r→g f a=some r)∧ ∀f a bs bo r,C.callP f a bs bo=some r→gp f a bs bo=some r) {ops:Array Oper} {n:Nat} {fl:List Nat}: ∀ {l:List Oper} {i:Nat} {s s1:St},evD C ops n fl i l s=some s1→evD (C.with g gp) ops n fl i l s=some s1
 |[],i,s,s1,h=>h
 |o::l,i,s,s1,h=>by
  simp only[evD] at h⊢
  split at h
  ·split at h
   ·rename_i h2
    simp only[mono_opD hg h2]
    exact mono_evD hg h
   ·cases h
  ·exact mono_evD hg h
  ·cases h
theorem mono_iter {f f' :St→Option (Ex×St)} (hf: ∀s r,f s=some r→f' s=some r) {n:Nat} {live out:List Nat}: ∀ {k k' :Nat},k≤k' → ∀ {s:St} {r:Ex×St},iter f n live out k s=some r→iter f' n live out k' s=some r
 |0,_,_,s,r,h=>by simp[iter] at h
 |k+1,k',hk,s,r,h=>by
  obtain⟨k',rfl⟩: ∃j,k' =j+1:=⟨k' -1,by omega⟩
  simp only[iter] at h⊢
  split at h
  ·rename_i e
   simp only[hf _ _ e]
   exact mono_iter hf (by omega) h
  ·rename_i e st hne e1
   simp only[hf _ _ e1]
   cases e with
   |normal=>exact absurd rfl hne
   |_=>exact h
  ·cases h
theorem mono_ev (hg:(∀f a r,C.call f a=some r→g f a=some r)∧ ∀f a bs bo r,C.callP f a bs bo=some r→gp f a bs bo=some r) {fuel fuel' :Nat} (hfu:fuel≤fuel'): ∀ {c:Code} {s:St} {r:Ex×St},ev C fuel c s=some r→ev (C.with g gp) fuel' c s=some r:=by
 intro c
 induction c with
 |region id ops draw=>
  intro s r h
  cases draw with
  |false=>
   simp only[ev] at h⊢
   split at h
   ·rename_i e;simp only[mono_ops hg e];exact h
   ·cases h
  |true=>
   simp only[ev] at h⊢
   split at h
   ·rename_i st e
    have:evD ((C.with g gp).nolin (wOf s ((C.with g gp).live (id+300000))) ((C.with g gp).live (id+250000))) ops s.blocks.length ((C.with g gp).live (id+200000)) 0 ops.toList s=some st:=mono_evD (C:=C.nolin (wOf s (C.live (id+300000))) (C.live (id+250000))) hg e
    simp only[this];exact h
   ·cases h
 |seq a b iha ihb=>
  intro s r h
  simp only[ev] at h⊢
  split at h
  ·rename_i e;simp only[iha e];exact ihb h
  ·rename_i hne
   rw[iha h]
   obtain⟨e,st⟩:=r
   cases e with
   |normal=>exact absurd h (hne st)
   |_=>rfl
 |cond c a b iha ihb=>
  intro s r h
  simp only[ev,wEvO] at h⊢
  split at h
  ·rename_i b e
   try simp only[e]
   cases b with
   |true=>exact iha h
   |false=>exact ihb h
  ·cases h
 |block id c ih=>
  intro s r h
  simp only[ev] at h⊢
  split at h
  ·rename_i j st e
   simp only[ih e];exact h
  ·rename_i hne
   rw[ih h]
   obtain⟨e,st⟩:=r
   cases e with
   |exit j=>exact absurd h (hne j st)
   |_=>rfl
 |loop c ih=>
  intro s r h
  simp only[ev] at h⊢
  exact mono_iter (fun s r h=>ih h) hfu h
 |scope c ih=>intro s r h;simp only[ev] at h⊢;exact ih h
 |_=>intro s r h;exact h
theorem wRes: ∀(rs:List ResultVar) (st:St),resV (C.with g gp) st rs=resV C st rs
 |[],st=>rfl
 |r::rs,st=>by
  simp only[resV,wLoad,wArgV,wRes rs]
theorem mono_finish {rs:List ResultVar} {x:Option (Ex×St)}:finish (C.with g gp) rs x=finish C rs x:=by
 unfold finish
 simp only[wRes]
theorem wResP1 (k:Nat) (st:St) (v:V):resP1 (C.with g gp) k st v=resP1 C k st v:=by
 cases v<;>simp only[resP1,wArgV]
theorem wResP (k:Nat): ∀(rs:List ResultVar) (st:St),resVP (C.with g gp) k st rs=resVP C k st rs
 |[],st=>rfl
 |r::rs,st=>by
  simp only[resVP,wLoad,wResP1,wResP k rs]
theorem mono_finishP {k:Nat} {rs:List ResultVar} {x:Option (Ex×St)}:finishP (C.with g gp) k rs x=finishP C k rs x:=by
 unfold finishP
 simp only[wResP]
theorem callB_mono {E:Env} {fuel fuel' :Nat} (hfu:fuel≤fuel'): ∀ {n n' :Nat},n≤n' →(∀f args r,callN E fuel n f args=some r→callN E fuel' n' f args=some r)∧
  ∀f args bs bo r,callP E fuel n f args bs bo=some r→callP E fuel' n' f args bs bo=some r
 |0,_,_=>⟨fun f args r h=>by simp[callN_zero] at h,fun f args bs bo r h=>by simp[callP_zero] at h⟩
 |n+1,n',hn=>by
  obtain⟨n',rfl⟩: ∃j,n' =j+1:=⟨n' -1,by omega⟩
  have IH:=callB_mono (E:=E) hfu (n:=n) (n' :=n') (by omega)
  have hw: ∀f,E.ctx f (callN E fuel' n') (callP E fuel' n')=(E.ctx f (callN E fuel n) (callP E fuel n)).with (callN E fuel' n') (callP E fuel' n'):=fun f=>rfl
  refine⟨fun f args r h=> ?_,fun f args bs bo r h=> ?_⟩
  ·rw[callN_succ] at h⊢
   split at h
   ·exact h
   ·rename_i e
    try simp only[e]
    split at h
    ·rename_i fn e1
     try simp only[e1]
     split at h
     ·rename_i c e2
      try simp only[e2]
      split at h
      ·rename_i e3
       try simp only[e3]
       unfold run at h⊢
       rw[hw,mono_finish]
       cases h1:ev (E.ctx f (callN E fuel n) (callP E fuel n)) fuel c {tmps:=argsT 0 args,blocks:=[],owns:=[] } with
       |none=>rw[h1] at h;simp[finish] at h
       |some x=>
        rw[h1] at h
        rw[mono_ev (C:=E.ctx f (callN E fuel n) (callP E fuel n)) (g:=callN E fuel' n') (gp:=callP E fuel' n') IH hfu h1]
        exact h
      ·cases h
     ·cases h
    ·cases h
  ·rw[callP_succ] at h⊢
   split at h
   ·exact h
   ·rename_i e
    try simp only[e]
    split at h
    ·rename_i fn e1
     try simp only[e1]
     split at h
     ·rename_i c e2
      try simp only[e2]
      split at h
      ·rename_i e3
       try simp only[e3]
       unfold runP at h⊢
       rw[hw,mono_finishP]
       cases h1:ev (E.ctx f (callN E fuel n) (callP E fuel n)) fuel c {tmps:=argsT 0 args,blocks:=bs,owns:=bo} with
       |none=>rw[h1] at h;simp[finishP] at h
       |some x=>
        rw[h1] at h
        rw[mono_ev (C:=E.ctx f (callN E fuel n) (callP E fuel n)) (g:=callN E fuel' n') (gp:=callP E fuel' n') IH hfu h1]
        exact h
      ·cases h
     ·cases h
    ·cases h
theorem callN_mono {E:Env} {fuel fuel' :Nat} (hfu:fuel≤fuel') {n n' :Nat} {f:FuncId} {args:List V} {r:Ret} (hn:n≤n') (h:callN E fuel n f args=some r):callN E fuel' n' f args=some r:=
 (callB_mono hfu hn).1 f args r h
end Go.VM
set_option linter.unusedSimpArgs false
set_option linter.unusedVariables false
namespace Go.VM
open Go
section
variable (C : Ctx) (slot : Option Nat) (dst : Option Tmp) (ty : TypeId) (pos : String) (af : Array Edge) (g : Option (Nat × Bool)) (st : St)
theorem bnd_some (x:Operand):bnd C st (some x) 0=asI (evO C st 0 x):=by
 show (match evO C st 0 x with|some (.d (.int _ n))=>some n|_=>none)=_
 rcases evO C st 0 x with _|u
 ·rfl
 ·cases u with
  |d d=>cases d<;>rfl
  |_=>rfl
theorem op_slice2 (t:TypeId) (x hi:Operand):evOp C slot ⟨dst,.slice t x none (some hi) none,ty,pos,af,g⟩ st=bindV (evO C st t x) fun v=>bindV (asI (evO C st 0 hi)) fun h=>bindV (evSlice C st t v 0 (some h) none) fun r=>some ((st.put dst r.1).own dst r.2):=by
 show (match evO C st t x,(some 0:Option Int) with
  |some v,some l=>(match bnd C st (some hi) 0 with
    |some h=>(match evSlice C st t v l (some h) none with
     |some (r,own)=>some ((st.put dst r).own dst own)
     |none=>none)
    |none=>none)
  |_,_=>none)=_
 rcases evO C st t x with _|v
 ·rfl
 ·simp only[bindV_some,bnd_some]
  rcases asI (evO C st 0 hi) with _|h
  ·rfl
  ·simp only[bindV_some]
   rcases evSlice C st t v 0 (some h) none with _|⟨r,own⟩<;>rfl
theorem op_slice12 (t:TypeId) (x lo hi:Operand):evOp C slot ⟨dst,.slice t x (some lo) (some hi) none,ty,pos,af,g⟩ st=bindV (evO C st t x) fun v=>bindV (asI (evO C st 0 lo)) fun l=>bindV (asI (evO C st 0 hi)) fun h=>bindV (evSlice C st t v l (some h) none) fun r=>some ((st.put dst r.1).own dst r.2):=by
 show (match evO C st t x,bnd C st (some lo) 0 with
  |some v,some l=>(match bnd C st (some hi) 0 with
    |some h=>(match evSlice C st t v l (some h) none with
     |some (r,own)=>some ((st.put dst r).own dst own)
     |none=>none)
    |none=>none)
  |_,_=>none)=_
 rcases evO C st t x with _|v
 ·rfl
 ·simp only[bindV_some,bnd_some]
  rcases asI (evO C st 0 lo) with _|l
  ·rfl
  ·simp only[bindV_some]
   rcases asI (evO C st 0 hi) with _|h
   ·rfl
   ·simp only[bindV_some]
    rcases evSlice C st t v l (some h) none with _|⟨r,own⟩<;>rfl
theorem op_slice0 (t:TypeId) (x:Operand):evOp C slot ⟨dst,.slice t x none none none,ty,pos,af,g⟩ st=bindV (evO C st t x) fun v=>bindV (evSlice C st t v 0 none none) fun r=>some ((st.put dst r.1).own dst r.2):=by
 show (match evO C st t x,(some 0:Option Int) with
  |some v,some l=>(match evSlice C st t v l none none with
     |some (r,own)=>some ((st.put dst r).own dst own)
     |none=>none)
  |_,_=>none)=_
 rcases evO C st t x with _|v
 ·rfl
 ·simp only[bindV_some]
  rcases evSlice C st t v 0 none none with _|⟨r,own⟩<;>rfl
end
theorem slice_nums2 (C:Ctx) (st:St) (t:Nat) (k:IntKind) (nl:Bool) (xs:List Int) (lo hi:Int):evSlice C st t (.d (.nums k nl xs)) lo (some hi) none=
  bindV (C.tt t) fun i=>bindV (elemK i.k) fun e=>bindV (C.tt e) fun j=>if j.size=1∧0≤lo∧lo≤hi∧hi≤xs.length then some (.d (.nums k nl ((xs.take hi.toNat).drop lo.toNat)),false) else none:=by
 unfold evSlice
 rcases C.tt t with _|⟨tk,s1,b1,z1,c1,q1⟩
 ·rfl
 ·cases tk with
  |slice e=>
   show (match C.tt e with|some j=>_|none=>none)=bindV (C.tt e) _
   rcases C.tt e with _|j
   ·rfl
   ·simp only[bindV_some,Option.getD_none,Option.getD_some,Option.isSome_none,Bool.false_and]
    by_cases h1:j.size=1
    ·by_cases h2:0≤lo<;>by_cases h3:lo≤hi<;>by_cases h4:hi≤xs.length<;>simp[h1,h2,h3,h4]
    ·simp[nbeq_false h1,h1]
  |_=>rfl
theorem slice_sl1 (C:Ctx) (st:St) (t:Nat) (sz:Nat) (nl:Bool) (xs:List (List D)) (lo:Int):evSlice C st t (.d (.sl sz nl xs)) lo none none=
  bindV (C.tt t) fun i=>bindV (elemK i.k) fun e=>bindV (C.tt e) fun j=>if j.size=sz∧0≤lo∧lo≤xs.length then some (.d (.sl sz nl (xs.drop lo.toNat)),false) else none:=by
 unfold evSlice
 rcases C.tt t with _|⟨tk,s1,b1,z1,c1,q1⟩
 ·rfl
 ·cases tk with
  |slice e=>
   show (match C.tt e with|some j=>_|none=>none)=bindV (C.tt e) _
   rcases C.tt e with _|j
   ·rfl
   ·simp only[bindV_some,Option.getD_none,Option.getD_some,Option.isSome_none,Bool.false_and,Int.toNat_natCast,List.take_length]
    by_cases h1:j.size=sz
    ·subst h1;by_cases h2:0≤lo<;>by_cases h3:lo≤xs.length<;>simp[h2,h3]
    ·simp[nbeq_false h1,h1]
  |_=>rfl
theorem slice_sl2 (C:Ctx) (st:St) (t:Nat) (sz:Nat) (nl:Bool) (xs:List (List D)) (lo hi:Int):evSlice C st t (.d (.sl sz nl xs)) lo (some hi) none=
  bindV (C.tt t) fun i=>bindV (elemK i.k) fun e=>bindV (C.tt e) fun j=>if j.size=sz∧0≤lo∧lo≤hi∧hi≤xs.length then some (.d (.sl sz nl ((xs.take hi.toNat).drop lo.toNat)),false) else none:=by
 unfold evSlice
 rcases C.tt t with _|⟨tk,s1,b1,z1,c1,q1⟩
 ·rfl
 ·cases tk with
  |slice e=>
   show (match C.tt e with|some j=>_|none=>none)=bindV (C.tt e) _
   rcases C.tt e with _|j
   ·rfl
   ·simp only[bindV_some,Option.getD_none,Option.getD_some,Option.isSome_none,Bool.false_and]
    by_cases h1:j.size=sz
    ·subst h1;by_cases h2:0≤lo<;>by_cases h3:lo≤hi<;>by_cases h4:hi≤xs.length<;>simp[h2,h3,h4]
    ·simp[nbeq_false h1,h1]
  |_=>rfl
attribute [simp] op_slice2 op_slice12 op_slice0 slice_nums2 slice_sl1 slice_sl2
end Go.VM
