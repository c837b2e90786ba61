/- The machine over values: equations to reckon by. -/
import Derived.Test.YthpmkmogoejjpaaGreatDoorVMO
set_option linter.unusedSimpArgs false
set_option linter.unusedVariables false
namespace Go.VM
open Go
def idd {α:Type} (a:α):α:=a
@[simp] theorem idd_eq {α : Type} (a : α) : idd a = a := (rfl)
def bindE (r:Option (Ex×St)) (k:St→Option (Ex×St)):Option (Ex×St):=
 match r with
 |some (.normal,st)=>k st
 |r=>r
def bindS {α:Type} (r:Option St) (k:St→Option α):Option α:=
 match r with
 |some st=>k st
 |none=>none
def bindV {α β:Type} (r:Option α) (k:α→Option β):Option β:=
 match r with
 |some v=>k v
 |none=>none
@[congr] theorem bindE_congr {r r' : Option (Ex × St)} {k : St → Option (Ex × St)} (h : idd r = r') : bindE r k = bindE r' k := by rw [← h]; rfl
@[congr] theorem bindS_congr {α : Type} {r r' : Option St} {k : St → Option α} (h : idd r = r') : bindS r k = bindS r' k := by rw [← h]; rfl
@[congr] theorem bindV_congr {α β : Type} {r r' : Option α} {k : α → Option β} (h : idd r = r') : bindV r k = bindV r' k := by rw [← h]; rfl
theorem bindE_normal (st:St) (k:St→Option (Ex×St)):bindE (some (.normal,st)) k=k st:=(rfl)
theorem bindE_exit (i:Nat) (st:St) (k:St→Option (Ex×St)):bindE (some (.exit i,st)) k=some (.exit i,st):=(rfl)
theorem bindE_ret (st:St) (k:St→Option (Ex×St)):bindE (some (.ret,st)) k=some (.ret,st):=(rfl)
theorem bindE_none (k:St→Option (Ex×St)):bindE none k=none:=(rfl)
theorem bindS_some {α:Type} (st:St) (k:St→Option α):bindS (some st) k=k st:=(rfl)
theorem bindS_none {α:Type} (k:St→Option α):bindS none k=none:=(rfl)
theorem bindV_some {α β:Type} (v:α) (k:α→Option β):bindV (some v) k=k v:=(rfl)
theorem bindV_none {α β:Type} (k:α→Option β):bindV none k=none:=(rfl)
def blockE (id:Nat) (r:Option (Ex×St)):Option (Ex×St):=
 match r with
 |some (.exit j,st)=>match Nat.beq j id with
  |true=>some (.normal,st)
  |false=>some (.exit j,st)
 |r=>r
section
variable (C : Ctx) (fuel : Nat) (st : St)
theorem ev_seq (a b:Code):ev C fuel (.seq a b) st=bindE (ev C fuel a st) fun st=>ev C fuel b st:=by
 show (match ev C fuel a st with|some (.normal,st)=>ev C fuel b st|r=>r)=_
 unfold bindE
 rcases ev C fuel a st with _|⟨e,s⟩
 ·rfl
 ·cases e<;>rfl
theorem ev_region (id:Nat) (ops:Array Oper):ev C fuel (.region id ops false) st=bindS (evOps C ops ops.toList st) fun st=>some (.normal,st.close (C.reg id)):=by
 show (match evOps C ops ops.toList st with|some st=>some (Ex.normal,st.close (C.reg id))|none=>none)=_
 unfold bindS
 cases evOps C ops ops.toList st<;>rfl
theorem ev_block (id:Nat) (c:Code):ev C fuel (.block id c) st=blockE id (ev C fuel c st):=(rfl)
end
def condE {α:Type} (b:Bool) (x y:α):α:=bif b then x else y
@[congr] theorem condE_congr {α : Type} {b b' : Bool} {x y : α} (h : idd b = b') : condE b x y = condE b' x y := by rw [← h]; rfl
theorem condE_true {α:Type} (x y:α):condE true x y=x:=(rfl)
theorem condE_false {α:Type} (x y:α):condE false x y=y:=(rfl)
def asB (r:Option V):Option Bool:=
 match r with
 |some (.d (.bool b))=>some b
 |_=>none
def asI (r:Option V):Option Int:=
 match r with
 |some (.d (.int _ n))=>some n
 |_=>none
def asT (r:Option V):Option (List V):=
 match r with
 |some (.tup vs)=>some vs
 |_=>none
theorem asB_d (b:Bool):asB (some (.d (.bool b)))=some b:=(rfl)
theorem asI_d (k:IntKind) (n:Int):asI (some (.d (.int k n)))=some n:=(rfl)
theorem asT_d (vs:List V):asT (some (.tup vs))=some vs:=(rfl)
section
variable (C : Ctx) (fuel : Nat) (st : St)
theorem ev_skip:ev C fuel .skip st=some (.normal,st):=(rfl)
theorem ev_label (l:Nat):ev C fuel (.label l) st=some (.normal,st):=(rfl)
theorem ev_exit (i:Nat):ev C fuel (.exit i) st=some (.exit i,st):=(rfl)
theorem ev_ret:ev C fuel .ret st=some (.ret,st):=(rfl)
theorem ev_scope (c:Code):ev C fuel (.scope c) st=ev C fuel c st:=(rfl)
theorem ev_cond (c:Operand) (x y:Code):ev C fuel (.cond c x y) st=bindV (asB (evO C st 0 c)) fun b=>condE b (ev C fuel x st) (ev C fuel y st):=by
 show (match evO C st 0 c with|some (.d (.bool b))=>(match b with|true=>ev C fuel x st|false=>ev C fuel y st)|_=>none)=_
 generalize evO C st 0 c=r
 rcases r with _|v
 ·rfl
 ·cases v with
  |d d=>cases d<;>first|rfl|(rename_i b;cases b<;>rfl)
  |_=>rfl
theorem ev_loop (c:Code):ev C fuel (.loop c) st=iter (ev C fuel c) st.blocks.length (C.live (keyOf c)) (C.live (keyOf c+100000)) fuel st:=(rfl)
theorem iter_succ (body:St→Option (Ex×St)) (n k:Nat) (live out:List Nat):iter body n live out (k+1) st=
  (match body (st.trim n live) with
  |some (.normal,st)=>iter body n live out k st
  |some (e,st)=>some (e,st.prune out)
  |none=>none):=rfl
theorem blockE_normal (i:Nat):blockE i (some (.normal,st))=some (.normal,st):=(rfl)
theorem blockE_ret (i:Nat):blockE i (some (.ret,st))=some (.ret,st):=(rfl)
theorem blockE_exit (i j:Nat):blockE i (some (.exit j,st))=if j=i then some (.normal,st) else some (.exit j,st):=by
 unfold blockE
 by_cases h:j=i
 ·subst h;simp
 ·simp[h,nbeq_false h]
variable (ops : Array Oper) (l : List Oper) (dst : Option Tmp) (op : Op) (ty : TypeId) (pos : String) (af : Array Edge)
theorem evOps_nil:evOps C ops [] st=some st:=(rfl)
theorem evOps_cons:evOps C ops (⟨dst,op,ty,pos,af,none⟩::l) st=bindS (evOp C none ⟨dst,op,ty,pos,af,none⟩ st) fun st=>evOps C ops l st:=by
 show (match evOp C none ⟨dst,op,ty,pos,af,none⟩ st with|some st=>evOps C ops l st|none=>none)=_
 unfold bindS
 cases evOp C none ⟨dst,op,ty,pos,af,none⟩ st<;>rfl
theorem evOps_guard (g:Nat×Bool):evOps C ops (⟨dst,op,ty,pos,af,some g⟩::l) st=
  bindV (wantedV ops st ⟨dst,op,ty,pos,af,some g⟩) fun b=>condE b (bindS (evOp C none ⟨dst,op,ty,pos,af,none⟩ st) fun st=>evOps C ops l st) (evOps C ops l (st.put dst .skip)):=by
 have e:evOp C none ⟨dst,op,ty,pos,af,some g⟩ st=evOp C none ⟨dst,op,ty,pos,af,none⟩ st:=rfl
 show (match wantedV ops st ⟨dst,op,ty,pos,af,some g⟩ with
  |some true=>(match evOp C none ⟨dst,op,ty,pos,af,some g⟩ st with|some st=>evOps C ops l st|none=>none)
  |some false=>evOps C ops l (st.put dst .skip)
  |none=>none)=_
 rw[e]
 rcases wantedV ops st ⟨dst,op,ty,pos,af,some g⟩ with _|b
 ·rfl
 ·cases b
  ·rfl
  ·show _=bindS _ _
   unfold bindS
   cases evOp C none ⟨dst,op,ty,pos,af,none⟩ st<;>rfl
variable (g : Option (Nat × Bool)) (slot : Option Nat)
theorem op_move (x:Operand):evOp C slot ⟨dst,.move x,ty,pos,af,g⟩ st=bindV (evO C st ty x) fun v=>condE (isTup v) (some ((st.put dst v).passTup x dst)) (some ((st.put dst v).pass x dst (inLin C dst))):=by
 show (match evO C st ty x with|some v=>(match isTup v with|true=>some ((st.put dst v).passTup x dst)|false=>some ((st.put dst v).pass x dst (inLin C dst)))|none=>none)=_
 unfold bindV
 rcases evO C st ty x with _|v
 ·rfl
 ·simp only;cases isTup v<;>rfl
theorem op_assign (x:Operand):evOp C slot ⟨dst,.assign x,ty,pos,af,g⟩ st=bindV (evO C st ty x) fun v=>some ((st.put dst v).pass x dst true):=by
 show (match evO C st ty x with|some v=>some ((st.put dst v).pass x dst true)|none=>none)=_
 unfold bindV
 rcases evO C st ty x<;>rfl
theorem op_pick (c x y:Operand):evOp C slot ⟨dst,.pick c x y,ty,pos,af,g⟩ st=bindV (asB (evO C st 0 c)) fun b=>bindV (condE b (evO C st ty x) (evO C st ty y)) fun v=>some (st.put dst v):=by
 show (match evO C st 0 c with
  |some (.d (.bool c))=>(match evO C st ty (match c with|true=>x|false=>y) with
   |some v=>some (st.put dst v)
   |none=>none)
  |_=>none)=_
 generalize evO C st 0 c=r
 rcases r with _|v
 ·rfl
 ·cases v with
  |d d=>
   cases d with
   |bool b=>
    cases b
    ·show (match evO C st ty y with|some v=>some (st.put dst v)|none=>none)=bindV (evO C st ty y) _
     unfold bindV;rcases evO C st ty y<;>rfl
    ·show (match evO C st ty x with|some v=>some (st.put dst v)|none=>none)=bindV (evO C st ty x) _
     unfold bindV;rcases evO C st ty x<;>rfl
   |_=>rfl
  |_=>rfl
theorem op_bin (o:BinOp) (t u:TypeId) (x y:Operand):evOp C slot ⟨dst,.binOp o t x y u,ty,pos,af,g⟩ st=
  bindV (evO C st t x) fun a=>bindV (evO C st t y) fun b=>bindV (evBin C o t x y a b) fun r=>some (st.put dst (.d r)):=by
 show (match evO C st t x,evO C st t y with
  |some a,some b=>(match evBin C o t x y a b with
   |some r=>some (st.put dst (.d r))
   |none=>none)
  |_,_=>none)=_
 unfold bindV
 rcases evO C st t x with _|a
 ·rfl
 ·rcases evO C st t y with _|b
  ·rfl
  ·simp only;rcases evBin C o t x y a b<;>rfl
theorem op_un (o:UnOp) (t:TypeId) (x:Operand):evOp C slot ⟨dst,.unOp o t x,ty,pos,af,g⟩ st=
  bindV (evO C st t x) fun a=>bindV (evUn o a) fun r=>some (st.put dst (.d r)):=by
 show (match evO C st t x with
  |some a=>(match evUn o a with
   |some r=>some (st.put dst (.d r))
   |none=>none)
  |none=>none)=_
 unfold bindV
 rcases evO C st t x with _|a
 ·rfl
 ·simp only;rcases evUn o a<;>rfl
theorem op_extract (x:Tmp) (j:Nat) (d:Tmp):evOp C slot ⟨some d,.extract (.tmp x) j,ty,pos,af,g⟩ st=bindV (asT (look x st.tmps)) fun vs=>bindV (vs[j]?) fun v=>some ((st.put (some d) v).give (.c x j) (.t d)):=by
 show (match evO C st 0 (.tmp x) with
  |some (.tup vs)=>(match vs[j]? with
   |some v=>some ((st.put (some d) v).give (.c x j) (.t d))
   |none=>none)
  |_=>none)=_
 show (match look x st.tmps with
  |some (.tup vs)=>(match vs[j]? with
   |some v=>some ((st.put (some d) v).give (.c x j) (.t d))
   |none=>none)
  |_=>none)=_
 generalize look x st.tmps=r
 rcases r with _|v
 ·rfl
 ·cases v with
  |tup vs=>
   show (match vs[j]? with
    |some v=>some ((st.put (some d) v).give (.c x j) (.t d))
    |none=>none)=bindV (vs[j]?) _
   unfold bindV;rcases vs[j]? <;>rfl
  |_=>rfl
theorem op_field (s:TypeId) (x:Operand) (f:Nat):evOp C slot ⟨dst,.field s x f,ty,pos,af,g⟩ st=bindV (evO C st s x) fun p=>bindV (evField C s f p) fun v=>some (st.put dst v):=by
 show (match evO C st s x with
  |some p=>(match evField C s f p with
   |some v=>some (st.put dst v)
   |none=>none)
  |none=>none)=_
 unfold bindV
 rcases evO C st s x with _|a
 ·rfl
 ·simp only;rcases evField C s f a<;>rfl
theorem op_fieldAddr (s:TypeId) (x:Operand) (f:Nat):evOp C slot ⟨dst,.fieldAddr s x f,ty,pos,af,g⟩ st=bindV (evO C st 0 x) fun p=>bindV (evFieldAddr C s f p) fun v=>some (st.put dst v):=by
 show (match evO C st 0 x with
  |some p=>(match evFieldAddr C s f p with
   |some v=>some (st.put dst v)
   |none=>none)
  |none=>none)=_
 unfold bindV
 rcases evO C st 0 x with _|a
 ·rfl
 ·simp only;rcases evFieldAddr C s f a<;>rfl
theorem op_index (t:TypeId) (x ix:Operand):evOp C slot ⟨dst,.index t x ix,ty,pos,af,g⟩ st=bindV (evO C st t x) fun p=>bindV (asI (evO C st 0 ix)) fun i=>bindV (evIndex C t p i) fun v=>some (st.put dst v):=by
 show (match evO C st t x,evO C st 0 ix with
  |some p,some i=>(match intOfV i with
   |some i=>(match evIndex C t p i with
    |some v=>some (st.put dst v)
    |none=>none)
   |none=>none)
  |_,_=>none)=_
 unfold bindV
 rcases evO C st t x with _|p
 ·rfl
 ·generalize evO C st 0 ix=r
  rcases r with _|i
  ·rfl
  ·cases i with
   |d d=>
    cases d with
    |int k n=>simp only[intOfV,asI];rcases evIndex C t p n<;>rfl
    |_=>rfl
   |_=>rfl
theorem op_indexAddr (t:TypeId) (x ix:Operand):evOp C slot ⟨dst,.indexAddr t x ix,ty,pos,af,g⟩ st=bindV (evO C st t x) fun p=>bindV (asI (evO C st 0 ix)) fun i=>bindV (evIndexAddr C t p i) fun v=>some (st.put dst v):=by
 show (match evO C st t x,evO C st 0 ix with
  |some p,some i=>(match intOfV i with
   |some i=>(match evIndexAddr C t p i with
    |some v=>some (st.put dst v)
    |none=>none)
   |none=>none)
  |_,_=>none)=_
 unfold bindV
 rcases evO C st t x with _|p
 ·rfl
 ·generalize evO C st 0 ix=r
  rcases r with _|i
  ·rfl
  ·cases i with
   |d d=>
    cases d with
    |int k n=>simp only[intOfV,asI];rcases evIndexAddr C t p n<;>rfl
    |_=>rfl
   |_=>rfl
theorem op_load (t:TypeId) (x:Operand):evOp C slot ⟨dst,.load t x,ty,pos,af,g⟩ st=bindV (evO C st 0 x) fun p=>bindV (evLoad C st t p) fun v=>
  match p,dst,inLin C dst && isSl v with
  | .ptr b off,some d,true=>some ((st.put dst v).give (.b b off) (.t d))
  |_,_,_=>some (st.put dst v):=by
 show (match evO C st 0 x with
  |some p=>(match evLoad C st t p with
   |some v=>(match p,dst,inLin C dst && isSl v with
    | .ptr b off,some d,true=>some ((st.put dst v).give (.b b off) (.t d))
    |_,_,_=>some (st.put dst v))
   |none=>none)
  |none=>none)=_
 unfold bindV
 rcases evO C st 0 x with _|p
 ·rfl
 ·simp only;rcases evLoad C st t p with _|v<;>rfl
theorem op_store (t:TypeId) (x y:Operand):evOp C slot ⟨dst,.store t x y,ty,pos,af,g⟩ st=bindV (evO C st 0 x) fun p=>bindV (evO C st t y) fun v=>bindS (evStore C st t p v) fun st=>
  match p,y,isSl v with
  | .ptr b off,.tmp s,true=>some ((st.give (.t s) (.b b off)).put dst .skip)
  |_,_,_=>some (st.put dst .skip):=by
 show (match evO C st 0 x,evO C st t y with
  |some p,some v=>(match evStore C st t p v with
   |some st=>(match p,y,isSl v with
    | .ptr b off,.tmp s,true=>some ((st.give (.t s) (.b b off)).put dst .skip)
    |_,_,_=>some (st.put dst .skip))
   |none=>none)
  |_,_=>none)=_
 rcases evO C st 0 x with _|p
 ·rfl
 ·rcases evO C st t y with _|v
  ·rfl
  ·show (match evStore C st t p v with
   |some st=>(match p,y,isSl v with
    | .ptr b off,.tmp s,true=>some ((st.give (.t s) (.b b off)).put dst .skip)
    |_,_,_=>some (st.put dst .skip))
   |none=>none)=bindS (evStore C st t p v) _
   rcases evStore C st t p v with _|s<;>rfl
theorem op_alloc (e:TypeId):evOp C slot ⟨dst,.alloc e,ty,pos,af,g⟩ st=bindV (C.tt e) fun i=>some ((st.new slot (.cells false (i.zero.map .d))).2.put dst (.ptr (st.new slot (.cells false (i.zero.map .d))).1 0)):=by
 show (match C.tt e with
  |some i=>some ((st.new slot (.cells false (i.zero.map .d))).2.put dst (.ptr (st.new slot (.cells false (i.zero.map .d))).1 0))
  |none=>none)=_
 unfold bindV
 rcases C.tt e<;>rfl
theorem op_makeInterface (t:TypeId) (x:Operand):evOp C slot ⟨dst,.makeInterface t x,ty,pos,af,g⟩ st=bindV (evO C st t x) fun a=>bindV (asD C st a) fun r=>bindV (C.tt t) fun i=>
  match i.k with
  | .iface=>none
  |_=>some (r.2.put dst (.d (.ifc t r.1))):=by
 show (match evO C st t x with
  |some a=>(match asD C st a,C.tt t with
   |some (d,st),some i=>(match i.k with
    | .iface=>none
    |_=>some (st.put dst (.d (.ifc t d))))
   |_,_=>none)
  |none=>none)=_
 rcases evO C st t x with _|a
 ·rfl
 ·show (match asD C st a,C.tt t with
   |some (d,st),some i=>(match i.k with
    | .iface=>none
    |_=>some (st.put dst (.d (.ifc t d))))
   |_,_=>none)=bindV (asD C st a) _
  rcases asD C st a with _|⟨d,s⟩
  ·rfl
  ·show (match some (d,s),C.tt t with
   |some (d,st),some i=>(match i.k with
    | .iface=>none
    |_=>some (st.put dst (.d (.ifc t d))))
   |_,_=>none)=bindV (C.tt t) _
   rcases C.tt t with _|i<;>rfl
theorem op_call (f:FuncId) (as:Array Operand) (ts:Array TypeId):evOp C slot ⟨dst,.call {callee:= .value (.func f),args:=as,argTypes:=ts},ty,pos,af,g⟩ st=
  condE (byPtr C st as.toList [] dst) (bindV (evArgsP C (rawHint C dst) st as.toList ts.toList) fun r=>handOver C (roomsIf (rawHint C dst) r.2 as.toList r.1) r.2 f (r.1++[]) dst)
   (bindV (evArgs C st as.toList ts.toList) fun r=>callWith C r.2 f (r.1++[]) dst):=by
 show (match byPtr C st as.toList [] dst with
       |false=>(match evArgs C st as.toList ts.toList with
        |some (vs,st)=>callWith C st f (vs++[]) dst
        |none=>none)
       |true=>(match evArgsP C (rawHint C dst) st as.toList ts.toList with
        |some (vs,st)=>handOver C (roomsIf (rawHint C dst) st as.toList vs) st f (vs++[]) dst
        |none=>none))=_
 unfold bindV condE
 cases byPtr C st as.toList [] dst with
 |false=>rcases evArgs C st as.toList ts.toList with _|⟨vs,s⟩<;>rfl
 |true=>rcases evArgsP C (rawHint C dst) st as.toList ts.toList with _|⟨vs,s⟩<;>rfl
theorem op_builtin (b:Builtin) (as:Array Operand) (ts:Array TypeId):evOp C slot ⟨dst,.call {callee:= .builtin b,args:=as,argTypes:=ts},ty,pos,af,g⟩ st=evBuiltin C st dst b as.toList ts.toList:=(rfl)
theorem b_len (x:Operand) (t:TypeId):evBuiltin C st dst .len [x] [t]=bindV (evO C st t x) fun v=>bindV (lenV C t v) fun n=>some (st.put dst (.d (.int .i64 n))):=by
 show (match evO C st t x with
  |some v=>(match lenV C t v with
   |some n=>some (st.put dst (.d (.int .i64 n)))
   |none=>none)
  |none=>none)=_
 unfold bindV
 rcases evO C st t x with _|v
 ·rfl
 ·simp only;rcases lenV C t v<;>rfl
end
theorem look_nil (t:Nat):look t []=none:=(rfl)
theorem look_cons (t u:Nat) (x:V) (l:List (Nat×V)):look t ((u,x)::l)=if t=u then some x else look t l:=by
 by_cases h:t=u
 ·subst h;simp[look]
 ·simp[look,h,nbeq_false h]
theorem ins_nil (t:Nat) (v:V):ins t v []=[(t,v)]:=(rfl)
theorem ins_cons (t u:Nat) (v x:V) (l:List (Nat×V)):ins t v ((u,x)::l)=if t<u then(t,v)::(u,x)::l else if t=u then(t,v)::l else(u,x)::ins t v l:=by
 simp only[ins]
 by_cases h:t<u
 ·rw[show Nat.blt t u=true by simpa[Nat.blt_eq] using h,if_pos h];rfl
 ·have:Nat.blt t u=false:=by
   cases e:Nat.blt t u with
   |false=>rfl
   |true=>exact absurd (by simpa[Nat.blt_eq] using e) h
  rw[this,if_neg h]
  by_cases h2:t=u
  ·subst h2;simp
  ·simp[h2,nbeq_false h2]
theorem put_mk (l:List (Nat×V)) (bs:List (Option Blk)) (os:List Pl) (t:Nat) (v:V):St.put ⟨l,bs,os⟩ (some t) v=⟨ins t v l,bs,dropPl (Pl.ofTmp t) os⟩:=(rfl)
theorem put_none (st:St) (v:V):st.put none v=st:=(rfl)
theorem pass_no (st:St) (x:Operand) (d:Option Nat):st.pass x d false=st:=by unfold St.pass;split<;>first|contradiction|rfl
theorem pass_tmp (st:St) (s d:Nat):st.pass (.tmp s) (some d) true=st.give (.t s) (.t d):=(rfl)
theorem pass_const (st:St) (c:Value) (d:Option Nat):st.pass (.const c) d true=st:=(rfl)
theorem pass_func (st:St) (f:FuncId) (d:Option Nat):st.pass (.func f) d true=st:=(rfl)
theorem give_nil (l:List (Nat×V)) (bs:List (Option Blk)) (p q:Pl):St.give ⟨l,bs,[]⟩ p q=⟨l,bs,[]⟩:=(rfl)
theorem dropPl_nil (f:Pl→Bool):dropPl f []=[]:=(rfl)
theorem isTup_d (x:D):isTup (.d x)=false:=(rfl)
theorem isTup_tup (vs:List V):isTup (.tup vs)=true:=(rfl)
theorem isTup_fn (f:FuncId) (vs:List V):isTup (.fn f vs)=false:=(rfl)
theorem isTup_ptr (i o:Nat):isTup (.ptr i o)=false:=(rfl)
theorem isTup_mu (i o l c s:Nat):isTup (.mu i o l c s)=false:=(rfl)
theorem evO_tmp (C:Ctx) (st:St) (t u:Nat):evO C st t (.tmp u)=look u st.tmps:=(rfl)
theorem evO_bool (C:Ctx) (st:St) (t:Nat) (b:Bool):evO C st t (.const (.bool b))=some (.d (.bool b)):=(rfl)
theorem evO_int (C:Ctx) (st:St) (t:Nat) (k:IntKind) (n:Int):evO C st t (.const (.int k n))=if k.wrap n=n then some (.d (.int k n)) else none:=by
 simp only[evO,absT]
 by_cases h:k.wrap n=n
 ·simp[h]
 ·have:(k.wrap n==n)=false:=by simp[h]
  simp[this,h]
theorem evO_nilifc (C:Ctx) (st:St) (t:Nat):evO C st t (.const .nilIface)=some (.d .nilifc):=(rfl)
section
variable (C : Ctx) (st : St) (dst : Option Tmp) (ty : TypeId) (pos : String) (af : Array Edge) (g : Option (Nat × Bool)) (slot : Option Nat)
theorem op_convert (s d:TypeId) (x:Operand):evOp C slot ⟨dst,.convert s d x,ty,pos,af,g⟩ st=bindV (evO C st s x) fun a=>bindV (evConv C st s d a) fun r=>some ((st.put dst r.1).own dst r.2):=by
 show (match evO C st s x with
  |some a=>(match evConv C st s d a with
   |some (v,own)=>some ((st.put dst v).own dst own)
   |none=>none)
  |none=>none)=_
 rcases evO C st s x with _|a
 ·rfl
 ·show (match evConv C st s d a with
   |some (v,own)=>some ((st.put dst v).own dst own)
   |none=>none)=bindV (evConv C st s d a) _
  rcases evConv C st s d a with _|⟨v,o⟩<;>rfl
theorem op_nilCheck (x:Operand):evOp C slot ⟨dst,.nilCheck x,ty,pos,af,g⟩ st=bindV (evO C st 0 x) fun v=>match v with
  | .fn f cs=>some (st.put dst (.fn f cs))
  |v=>match nilPtr v with
   |some false=>some (st.put dst v)
   |_=>none:=by
 show (match evO C st 0 x with
  |some (.fn f cs)=>some (st.put dst (.fn f cs))
  |some v=>(match nilPtr v with
   |some false=>some (st.put dst v)
   |_=>none)
  |none=>none)=_
 rcases evO C st 0 x with _|v
 ·rfl
 ·cases v<;>rfl
theorem op_build (t:TypeId) (ps:Array (Nat×Operand)):evOp C slot ⟨dst,.build t ps,ty,pos,af,g⟩ st=bindV (evBuild C st t ps.toList) fun v=>some (st.put dst v):=by
 show (match evBuild C st t ps.toList with
  |some v=>some (st.put dst v)
  |none=>none)=_
 rcases evBuild C st t ps.toList<;>rfl
theorem op_buildSlice (t n:Nat) (ps:Array (Nat×Operand)):evOp C slot ⟨dst,.buildSlice t n ps,ty,pos,af,g⟩ st=bindV (litCells C st t n ps.toList) fun r=>
  match r.2.k,allI (match r.2.k with| .int k=>k|_=> .i64) r.1,allD r.1 with
   | .int k,some ns,_=>some ((st.put dst (.d (.nums k false ns))).own dst true)
   | .int _,none,_=>none
   |_,_,some ds=>some ((st.put dst (.d (.sl r.2.size false (chunk r.2.size n ds)))).own dst true)
   |_,_,none=>some ((st.new slot (.cells false r.1)).2.put dst (.mu (st.new slot (.cells false r.1)).1 0 n n r.2.size)):=by
 show (match litCells C st t n ps.toList with
  |some (cs,j)=>(match j.k,allI (match j.k with| .int k=>k|_=> .i64) cs,allD cs with
   | .int k,some ns,_=>some ((st.put dst (.d (.nums k false ns))).own dst true)
   | .int _,none,_=>none
   |_,_,some ds=>some ((st.put dst (.d (.sl j.size false (chunk j.size n ds)))).own dst true)
   |_,_,none=>some ((st.new slot (.cells false cs)).2.put dst (.mu (st.new slot (.cells false cs)).1 0 n n j.size)))
  |none=>none)=_
 rcases litCells C st t n ps.toList with _|⟨cs,j⟩<;>rfl
theorem op_slice1 (t:TypeId) (x lo:Operand):evOp C slot ⟨dst,.slice t x (some lo) none none,ty,pos,af,g⟩ st=bindV (evO C st t x) fun v=>bindV (asI (evO C st 0 lo)) fun l=>bindV (evSlice C st t v l none none) fun r=>some ((st.put dst r.1).own dst r.2):=by
 show (match evO C st t x,bnd C st (some lo) 0 with
  |some v,some l=>(match evSlice C st t v l none none with
    |some (r,own)=>some ((st.put dst r).own dst own)
    |none=>none)
  |_,_=>none)=_
 rcases evO C st t x with _|v
 ·rfl
 ·have e:bnd C st (some lo) 0=asI (evO C st 0 lo):=by
   show (match evO C st 0 lo with|some (.d (.int _ n))=>some n|_=>none)=_
   rcases evO C st 0 lo with _|u
   ·rfl
   ·cases u with
    |d d=>cases d<;>rfl
    |_=>rfl
  rw[e]
  show _=bindV (asI (evO C st 0 lo)) _
  rcases asI (evO C st 0 lo) with _|l
  ·rfl
  ·show (match evSlice C st t v l none none with
    |some (r,own)=>some ((st.put dst r).own dst own)
    |none=>none)=bindV (evSlice C st t v l none none) _
   rcases evSlice C st t v l none none with _|⟨r,o⟩<;>rfl
theorem own_no (d:Option Nat):st.own d false=st:=by cases d<;>rfl
end
theorem callN_run {E:Env} {fuel n:Nat} {f:FuncId} {fn:Func} {c:Code} {args:List V} (h1:E.ext f args=none) (h2:E.fns f=some fn) (h3:fn.body=some c) (h4:args.length≤fn.ntmps):
  callN E fuel (n+1) f args=finish (E.ctx f (callN E fuel n) (callP E fuel n)) fn.results.toList (ev (E.ctx f (callN E fuel n) (callP E fuel n)) fuel c ⟨argsT 0 args,[],[]⟩):=by
 simp only[callN_succ,h1,h2,h3,show Nat.ble args.length fn.ntmps=true from Nat.ble_eq▸h4]
 rfl
theorem callP_run {E:Env} {fuel n:Nat} {f:FuncId} {fn:Func} {c:Code} {args:List V} {bs:List (Option Blk)} {bo:List Pl} (h1:E.extP f args bs bo=none) (h2:E.fns f=some fn) (h3:fn.body=some c) (h4:args.length≤fn.ntmps):
  callP E fuel (n+1) f args bs bo=finishP (E.ctx f (callN E fuel n) (callP E fuel n)) bs.length fn.results.toList (ev (E.ctx f (callN E fuel n) (callP E fuel n)) fuel c ⟨argsT 0 args,bs,bo⟩):=by
 simp only[callP_succ,h1,h2,h3,show Nat.ble args.length fn.ntmps=true from Nat.ble_eq▸h4]
 rfl
def finishS (C:Ctx) (rs:List ResultVar) (st:St):Option Ret:=
 bindV (resV C st rs) fun r=>match refsL r.1 with
  |[]=>some {vals:=r.1,own:=(resO r.2 rs 0).map Prod.fst}
  |_=>none
theorem finish_normal (C:Ctx) (rs:List ResultVar) (st:St):finish C rs (some (.normal,st))=finishS C rs st:=by
 unfold finishS bindV
 show (match resV C st rs with
  |some (vs,st)=>(match refsL vs with
   |[]=>some ({vals:=vs,own:=(resO st rs 0).map Prod.fst}:Ret)
   |_=>none)
  |none=>none)=_
 rcases resV C st rs with _|⟨vs,s⟩<;>rfl
theorem finish_ret (C:Ctx) (rs:List ResultVar) (st:St):finish C rs (some (.ret,st))=finishS C rs st:=finish_normal C rs st
theorem finishS_eq (C:Ctx) (rs:List ResultVar) (st:St):finishS C rs st=bindV (resV C st rs) fun r=>match refsL r.1 with
  |[]=>some {vals:=r.1,own:=(resO r.2 rs 0).map Prod.fst}
  |_=>none:=rfl
theorem resV_nil (C:Ctx) (st:St):resV C st []=some ([],st):=(rfl)
theorem resV_tmp (C:Ctx) (st:St) (t:Nat) (rs:List ResultVar):resV C st (.tmp t::rs)=bindV (look t st.tmps) fun v=>bindV (argV C st v) fun r=>bindV (resV C r.2 rs) fun s=>some (r.1::s.1,s.2):=by
 show (match look t st.tmps with
  |some v=>(match argV C st v with
   |some (v,st)=>(match resV C st rs with
    |some (vs,st)=>some (v::vs,st)
    |none=>none)
   |none=>none)
  |none=>none)=_
 rcases look t st.tmps with _|v
 ·rfl
 ·show (match argV C st v with
   |some (v,st)=>(match resV C st rs with
    |some (vs,st)=>some (v::vs,st)
    |none=>none)
   |none=>none)=bindV (argV C st v) _
  rcases argV C st v with _|⟨v,s⟩
  ·rfl
  ·show (match resV C s rs with
    |some (vs,st)=>some (v::vs,st)
    |none=>none)=bindV (resV C s rs) _
   rcases resV C s rs with _|⟨vs,s⟩<;>rfl
theorem argV_d (C:Ctx) (st:St) (x:D):argV C st (.d x)=some (.d x,st):=(rfl)
theorem evArgs_nil (C:Ctx) (st:St) (ts:List Nat):evArgs C st [] ts=some ([],st):=(rfl)
theorem evArgs_cons (C:Ctx) (st:St) (x:Operand) (xs:List Operand) (t:Nat) (ts:List Nat):evArgs C st (x::xs) (t::ts)=bindV (evO C st t x) fun v=>bindV (argV C st v) fun r=>bindV (evArgs C r.2 xs ts) fun s=>some (r.1::s.1,s.2):=by
 show (match evO C st t x with
  |some v=>(match argV C st v with
   |some (v,st)=>(match evArgs C st xs ts with
    |some (vs,st)=>some (v::vs,st)
    |none=>none)
   |none=>none)
  |none=>none)=_
 rcases evO C st t x with _|v
 ·rfl
 ·show (match argV C st v with
   |some (v,st)=>(match evArgs C st xs ts with
    |some (vs,st)=>some (v::vs,st)
    |none=>none)
   |none=>none)=bindV (argV C st v) _
  rcases argV C st v with _|⟨v,s⟩
  ·rfl
  ·show (match evArgs C s xs ts with
    |some (vs,st)=>some (v::vs,st)
    |none=>none)=bindV (evArgs C s xs ts) _
   rcases evArgs C s xs ts with _|⟨vs,s⟩<;>rfl
theorem callWith_eq (C:Ctx) (st:St) (f:FuncId) (args:List V) (dst:Option Nat) (h:refsL args=[]):callWith C st f args dst=bindV (C.call f args) fun r=>match refsL r.vals with
  |[]=>some (st.putRet dst r)
  |_=>none:=by
 unfold callWith
 rw[h]
 show (match C.call f args with
  |some r=>(match refsL r.vals with
   |[]=>some (st.putRet dst r)
   |_=>none)
  |none=>none)=_
 rcases C.call f args<;>rfl
theorem putRet_1 (st:St) (d:Nat) (v:V) (own:List Nat):st.putRet (some d) ⟨[v],own⟩=(st.put (some d) v).own (some d) (hasNat 0 own):=(rfl)
theorem putRet_2 (l:List (Nat×V)) (bs:List (Option Blk)) (os:List Pl) (d:Nat) (v u:V) (vs:List V) (own:List Nat):St.putRet ⟨l,bs,os⟩ (some d) ⟨v::u::vs,own⟩=⟨ins d (.tup (v::u::vs)) l,bs,ownC d own++dropPl (Pl.ofTmp d) os⟩:=(rfl)
end Go.VM
set_option linter.unusedSimpArgs false
set_option linter.unusedVariables false
namespace Go.VM
open Go
theorem isNilD_nums (k:IntKind) (b:Bool) (xs:List Int):isNilD (.d (.nums k b xs))=b:=by cases b<;>rfl
theorem isNilD_sl (z:Nat) (b:Bool) (xs:List (List D)):isNilD (.d (.sl z b xs))=b:=by cases b<;>rfl
theorem isNilD_mu (i o l c s:Nat):isNilD (.mu i o l c s)=false:=(rfl)
theorem isNilD_ptr (i o:Nat):isNilD (.ptr i o)=false:=(rfl)
theorem isNilD_int (k:IntKind) (n:Int):isNilD (.d (.int k n))=false:=(rfl)
theorem isNilD_bool (n:Bool):isNilD (.d (.bool n))=false:=(rfl)
theorem isNilD_str (n:List Int):isNilD (.d (.str n))=false:=(rfl)
theorem isNilD_agg (n:List D):isNilD (.d (.agg n))=false:=(rfl)
theorem isNilD_ifc (u:Nat) (n:D):isNilD (.d (.ifc u n))=false:=(rfl)
theorem isNilD_nilifc:isNilD (.d .nilifc)=false:=(rfl)
theorem isNilD_fp (n:List D):isNilD (.d (.fp n))=false:=(rfl)
theorem isNilD_nilptr:isNilD (.d .nilptr)=false:=(rfl)
theorem isNilD_fn (f:FuncId) (n:List V):isNilD (.fn f n)=false:=(rfl)
theorem isNilD_aggV (n:List V):isNilD (.agg n)=false:=(rfl)
def refOf (r:Option V):Bool:=
 match r with
 |some v=>isRefV v
 |none=>false
section
variable (C : Ctx) (st : St)
theorem anyRef_nil:anyRef st []=false:=(rfl)
theorem anyRef_tmp (t:Nat) (xs:List Operand):anyRef st (.tmp t::xs)=(refOf (look t st.tmps)||anyRef st xs):=by
 simp only[anyRef,refOf]
 cases look t st.tmps with
 |none=>rfl
 |some v=>simp only;cases isRefV v<;>rfl
theorem anyRef_const (v:Value) (xs:List Operand):anyRef st (.const v::xs)=anyRef st xs:=(rfl)
theorem anyRef_global (g:Nat) (xs:List Operand):anyRef st (.global g::xs)=anyRef st xs:=(rfl)
theorem anyRef_func (f:FuncId) (xs:List Operand):anyRef st (.func f::xs)=anyRef st xs:=(rfl)
theorem refOf_none:refOf none=false:=(rfl)
theorem refOf_d (x:D):refOf (some (.d x))=false:=(rfl)
theorem refOf_any:refOf (some .any)=false:=(rfl)
theorem refOf_skip:refOf (some .skip)=false:=(rfl)
theorem refOf_gp (g o:Nat):refOf (some (.gp g o))=false:=(rfl)
theorem refOf_tup (vs:List V):refOf (some (.tup vs))=false:=(rfl)
theorem refOf_mu (i o l c s:Nat):refOf (some (.mu i o l c s))=false:=(rfl)
theorem refOf_ptr (i o:Nat):refOf (some (.ptr i o))=true:=(rfl)
theorem refOf_fn (f:FuncId) (cs:List V):refOf (some (.fn f cs))=hasRef cs:=(rfl)
theorem refOf_agg (cs:List V):refOf (some (.agg cs))=hasRef cs:=(rfl)
theorem hasRef_nil:hasRef []=false:=(rfl)
theorem hasRef_cons (v:V) (l:List V):hasRef (v::l)=(!(refs v).isEmpty||hasRef l):=by
 simp only[hasRef,refsL]
 cases refs v<;>rfl
theorem rawHint_some (d:Nat):rawHint C (some d)=hasNat (d+1000000) C.lin:=(rfl)
theorem rawHint_none:rawHint C none=false:=(rfl)
theorem byPtr_eq (as:List Operand) (caps:List V) (dst:Option Nat):byPtr C st as caps dst=(anyRef st as||hasRef caps||rawHint C dst):=by
 unfold byPtr
 cases anyRef st as<;>cases hasRef caps<;>rfl
theorem argP_ptr (raw:Bool) (i o:Nat):argP C raw st (.ptr i o)=some (.ptr i o,st):=(rfl)
theorem argP_agg (raw:Bool) (cs:List V):argP C raw st (.agg cs)=some (.agg cs,st):=(rfl)
theorem argP_fn (raw:Bool) (f:FuncId) (cs:List V):argP C raw st (.fn f cs)=some (.fn f cs,st):=(rfl)
theorem argP_mu_raw (i o l c s:Nat):argP C true st (.mu i o l c s)=some (.mu i o l c s,st):=(rfl)
theorem argP_mu (i o l c s:Nat):argP C false st (.mu i o l c s)=argV C st (.mu i o l c s):=(rfl)
theorem argP_d (raw:Bool) (x:D):argP C raw st (.d x)=some (.d x,st):=(rfl)
theorem argP_gp (raw:Bool) (g o:Nat):argP C raw st (.gp g o)=some (.gp g o,st):=(rfl)
theorem evArgsP_nil (raw:Bool) (ts:List Nat):evArgsP C raw st [] ts=some ([],st):=(rfl)
theorem evArgsP_cons (raw:Bool) (x:Operand) (xs:List Operand) (t:Nat) (ts:List Nat):evArgsP C raw st (x::xs) (t::ts)=
  bindV (evO C st t x) fun v=>bindV (argP C raw st v) fun r=>bindV (evArgsP C raw r.2 xs ts) fun s=>some (r.1::s.1,s.2):=by
 show (match evO C st t x with
  |some v=>(match argP C raw st v with
   |some (v,st)=>(match evArgsP C raw st xs ts with
    |some (vs,st)=>some (v::vs,st)
    |none=>none)
   |none=>none)
  |none=>none)=_
 rcases evO C st t x with _|v
 ·rfl
 ·simp only[bindV_some]
  rcases argP C raw st v with _|⟨u,s⟩
  ·rfl
  ·simp only[bindV_some]
   rcases evArgsP C raw s xs ts with _|⟨us,s'⟩<;>rfl
end
theorem newOf_nil (seen:List Nat):newOf seen []=[]:=(rfl)
theorem newOf_cons (seen:List Nat) (i:Nat) (l:List Nat):newOf seen (i::l)=condE (hasNat i seen) (newOf seen l) (i::newOf (i::seen) l):=(rfl)
theorem refsB_none:refsB none=[]:=(rfl)
theorem refsB_cells (fz:Bool) (cs:List V):refsB (some (.cells fz cs))=refsL cs:=(rfl)
theorem refsB_ints (fz:Bool) (k:IntKind) (xs:List Int):refsB (some (.ints fz k xs))=[]:=(rfl)
theorem reach_cons (bs:List (Option Blk)) (b:Option Blk) (k:List (Option Blk)) (i:Nat) (todo seen:List Nat):reach bs (b::k) (i::todo) seen=
  reach bs k (todo++newOf seen (refsB (getO bs i))) (seen++newOf seen (refsB (getO bs i))):=(rfl)
theorem reach_nil (bs:List (Option Blk)) (todo seen:List Nat):reach bs [] todo seen=seen:=by cases todo<;>rfl
theorem reach_done (bs k:List (Option Blk)) (seen:List Nat):reach bs k [] seen=seen:=by cases k<;>rfl
theorem getO_cons0 (b:Option Blk) (bs:List (Option Blk)):getO (b::bs) 0=b:=(rfl)
theorem getO_conss (b:Option Blk) (bs:List (Option Blk)) (i:Nat):getO (b::bs) (i+1)=getO bs i:=by simp[getO]
theorem getOs_nil (bs:List (Option Blk)):getOs bs []=[]:=(rfl)
theorem getOs_cons (bs:List (Option Blk)) (i:Nat) (l:List Nat):getOs bs (i::l)=getO bs i::getOs bs l:=(rfl)
theorem idxOf_nil (j:Nat):idxOf [] j=none:=(rfl)
theorem idxOf_cons (i:Nat) (l:List Nat) (j:Nat):idxOf (i::l) j=condE (Nat.beq i j) (some 0) (bindV (idxOf l j) fun k=>some (k+1)):=by
 simp only[idxOf,bindV,condE]
 cases Nat.beq i j with
 |true=>rfl
 |false=>cases idxOf l j<;>rfl
section
variable (ρ : Nat → Option Nat)
theorem renV_d (x:D):renV ρ (.d x)=some (.d x):=(rfl)
theorem renV_any:renV ρ .any=some .any:=(rfl)
theorem renV_skip:renV ρ .skip=some .skip:=(rfl)
theorem renV_gp (g o:Nat):renV ρ (.gp g o)=some (.gp g o):=(rfl)
theorem renV_ptr (i o:Nat):renV ρ (.ptr i o)=bindV (ρ i) fun j=>some (.ptr j o):=by
 simp only[renV,bindV];cases ρ i<;>rfl
theorem renV_mu (i o l c s:Nat):renV ρ (.mu i o l c s)=bindV (ρ i) fun j=>some (.mu j o l c s):=by
 simp only[renV,bindV];cases ρ i<;>rfl
theorem renV_fn (f:FuncId) (cs:List V):renV ρ (.fn f cs)=bindV (renL ρ cs) fun us=>some (.fn f us):=by
 simp only[renV,bindV];cases renL ρ cs<;>rfl
theorem renV_agg (cs:List V):renV ρ (.agg cs)=bindV (renL ρ cs) fun us=>some (.agg us):=by
 simp only[renV,bindV];cases renL ρ cs<;>rfl
theorem renV_tup (cs:List V):renV ρ (.tup cs)=bindV (renL ρ cs) fun us=>some (.tup us):=by
 simp only[renV,bindV];cases renL ρ cs<;>rfl
theorem renL_nil:renL ρ []=some []:=(rfl)
theorem renL_cons (v:V) (l:List V):renL ρ (v::l)=bindV (renV ρ v) fun u=>bindV (renL ρ l) fun us=>some (u::us):=by
 simp only[renL,bindV]
 cases renV ρ v with
 |none=>rfl
 |some u=>simp only;cases renL ρ l<;>rfl
theorem renL_mapd: ∀l:List D,renL ρ (l.map .d)=some (l.map .d)
 |[]=>rfl
 |x::l=>by simp[renL_cons,renV_d,renL_mapd l,bindV_some]
theorem renB_none:renB ρ none=none:=(rfl)
theorem renB_cells (fz:Bool) (cs:List V):renB ρ (some (.cells fz cs))=bindV (renL ρ cs) fun us=>some (some (.cells fz us)):=by
 simp only[renB,bindV];cases renL ρ cs<;>rfl
theorem renB_ints (fz:Bool) (k:IntKind) (xs:List Int):renB ρ (some (.ints fz k xs))=some (some (.ints fz k xs)):=(rfl)
theorem renBs_nil:renBs ρ []=some []:=(rfl)
theorem renBs_cons (b:Option Blk) (l:List (Option Blk)):renBs ρ (b::l)=bindV (renB ρ b) fun c=>bindV (renBs ρ l) fun cs=>some (c::cs):=by
 simp only[renBs,bindV]
 cases renB ρ b with
 |none=>rfl
 |some u=>simp only;cases renBs ρ l<;>rfl
theorem renPl_nil:renPl ρ []=[]:=(rfl)
theorem renPl_t (t:Nat) (l:List Pl):renPl ρ (.t t::l)=renPl ρ l:=(rfl)
theorem renPl_c (t j:Nat) (l:List Pl):renPl ρ (.c t j::l)=renPl ρ l:=(rfl)
def renPb (r:Option Nat) (j:Nat) (l:List Pl):List Pl:=
 match r with
 |some k=> .b k j::l
 |none=>l
theorem renPl_b (i j:Nat) (l:List Pl):renPl ρ (.b i j::l)=renPb (ρ i) j (renPl ρ l):=by
 simp only[renPl,renPb]
 cases ρ i<;>rfl
theorem renPb_some (k j:Nat) (l:List Pl):renPb (some k) j l= .b k j::l:=(rfl)
theorem renPb_none (j:Nat) (l:List Pl):renPb none j l=l:=(rfl)
end
theorem refsL_mapd: ∀l:List D,refsL (l.map .d)=[]
 |[]=>rfl
 |x::l=>by simp[refsL,refs,refsL_mapd l]
theorem nodupB_nil:nodupB []=true:=(rfl)
theorem nodupB_cons (i:Nat) (l:List Nat):nodupB (i::l)=condE (hasNat i l) false (nodupB l):=(rfl)
theorem allSome_nil:allSome []=true:=(rfl)
theorem allSome_some (B:Blk) (l:List (Option Blk)):allSome (some B::l)=allSome l:=(rfl)
theorem allSome_none (l:List (Option Blk)):allSome (none::l)=false:=(rfl)
theorem outIx_eq (idx:List Nat) (n k:Nat):outIx idx n k=some (match idx[k]? with|some i=>i|none=>n+(k-idx.length)):=(rfl)
theorem setBs_nil (bs all:List (Option Blk)):setBs [] bs all=all:=by cases bs<;>rfl
theorem setBs_cons (i:Nat) (l:List Nat) (b:Option Blk) (bs all:List (Option Blk)):setBs (i::l) (b::bs) all=setBs l bs (all.set i b):=(rfl)
theorem headOk_nil (bs:List (Option Blk)):headOk [] bs=true:=(rfl)
theorem headOk_cons (i:Nat) (l:List Nat) (B:Blk) (bs:List (Option Blk)):headOk (i::l) (some B::bs)=headOk l bs:=(rfl)
theorem dropL_nil (bs:List (Option Blk)):dropL [] bs=bs:=by cases bs<;>rfl
theorem dropL_cons (i:Nat) (l:List Nat) (b:Option Blk) (bs:List (Option Blk)):dropL (i::l) (b::bs)=dropL l bs:=(rfl)
theorem handed_mk (l:List (Nat×V)) (bs:List (Option Blk)) (os:List Pl) (args:List V):handed ⟨l,bs,os⟩ args=reach bs bs (newOf [] (refsL args)) (newOf [] (refsL args)):=(rfl)
def roomK (t:Nat) (v:Option V) (b:Bool):Option (Option Nat):=
 match v with
 |some (.d y)=>bif isSl (.d y) then(bif b then some (some t) else none) else none
 |_=>none
theorem roomsIf_no (st:St) (xs:List Operand) (vs:List V):roomsIf false st xs vs=[]:=(rfl)
theorem roomsIf_yes (st:St) (xs:List Operand) (vs:List V):roomsIf true st xs vs=rooms st 0 xs vs:=(rfl)
theorem rooms_nil (st:St) (j:Nat) (vs:List V):rooms st j [] vs=[]:=by cases vs<;>rfl
def roomC (r:Option (Option Nat)) (j:Nat) (l:List (Option Nat×Nat)):List (Option Nat×Nat):=
 match r with
 |some r=>(r,j)::l
 |none=>l
theorem roomC_some (r:Option Nat) (j:Nat) (l:List (Option Nat×Nat)):roomC (some r) j l=(r,j)::l:=(rfl)
theorem roomC_none (j:Nat) (l:List (Option Nat×Nat)):roomC none j l=l:=(rfl)
theorem rooms_cons (st:St) (j:Nat) (x:Operand) (xs:List Operand) (v:V) (vs:List V):rooms st j (x::xs) (v::vs)=roomC (roomOf st x v) j (rooms st (j+1) xs vs):=by
 simp only[rooms,roomC]
 cases roomOf st x v<;>rfl
theorem roomOf_tmp (st:St) (t:Nat) (v:V):roomOf st (.tmp t) v=condE (isNilD v) (some none) (roomK t (look t st.tmps) (hasPl (.t t) st.owns)):=by
 simp only[roomOf,condE,roomK]
 cases isNilD v with
 |true=>rfl
 |false=>
  simp only[cond_false]
  cases look t st.tmps with
  |none=>rfl
  |some u=>cases u<;>rfl
theorem roomOf_const (st:St) (c:Value) (v:V):roomOf st (.const c) v=condE (isNilD v) (some none) none:=by
 simp only[roomOf,condE]
theorem roomOf_func (st:St) (c:FuncId) (v:V):roomOf st (.func c) v=condE (isNilD v) (some none) none:=by
 simp only[roomOf,condE]
theorem roomK_none (t:Nat) (b:Bool):roomK t none b=none:=(rfl)
theorem roomK_nums (t:Nat) (k:IntKind) (n:Bool) (xs:List Int) (b:Bool):roomK t (some (.d (.nums k n xs))) b=condE b (some (some t)) none:=(rfl)
theorem roomK_sl (t z:Nat) (n:Bool) (xs:List (List D)) (b:Bool):roomK t (some (.d (.sl z n xs))) b=condE b (some (some t)) none:=(rfl)
theorem roomK_int (t:Nat) (k:IntKind) (n:Int) (b:Bool):roomK t (some (.d (.int k n))) b=none:=(rfl)
theorem roomK_bool (t:Nat) (n:Bool) (b:Bool):roomK t (some (.d (.bool n))) b=none:=(rfl)
theorem roomK_str (t:Nat) (n:List Int) (b:Bool):roomK t (some (.d (.str n))) b=none:=(rfl)
theorem roomK_agg (t:Nat) (n:List D) (b:Bool):roomK t (some (.d (.agg n))) b=none:=(rfl)
theorem roomK_ifc (t u:Nat) (n:D) (b:Bool):roomK t (some (.d (.ifc u n))) b=none:=(rfl)
theorem roomK_nilifc (t:Nat) (b:Bool):roomK t (some (.d .nilifc)) b=none:=(rfl)
theorem roomK_ptr (t i o:Nat) (b:Bool):roomK t (some (.ptr i o)) b=none:=(rfl)
theorem roomK_mu (t i o l c s:Nat) (b:Bool):roomK t (some (.mu i o l c s)) b=none:=(rfl)
theorem roomK_fn (t:Nat) (f:FuncId) (cs:List V) (b:Bool):roomK t (some (.fn f cs)) b=none:=(rfl)
theorem roomK_aggV (t:Nat) (cs:List V) (b:Bool):roomK t (some (.agg cs)) b=none:=(rfl)
theorem findS_nil (s:Nat):findS s []=none:=(rfl)
theorem findS_some (s u j:Nat) (l:List (Option Nat×Nat)):findS s ((some u,j)::l)=condE (Nat.beq s u) (some j) (findS s l):=(rfl)
theorem findS_none (s j:Nat) (l:List (Option Nat×Nat)):findS s ((none,j)::l)=findS s l:=(rfl)
def sameN (r:Option Nat) (j:Nat):Bool:=
 match r with
 |some k=>Nat.beq k j
 |none=>false
theorem sameN_some (k j:Nat):sameN (some k) j=Nat.beq k j:=(rfl)
theorem roomsOk_nil (rs:List (Option Nat×Nat)):roomsOk rs []=true:=(rfl)
theorem roomsOk_some (rs:List (Option Nat×Nat)) (s j:Nat) (l:List (Option Nat×Nat)):roomsOk rs ((some s,j)::l)=condE (sameN (findS s rs) j) (roomsOk rs l) false:=by
 simp only[roomsOk,condE,sameN]
 cases findS s rs with
 |none=>rfl
 |some k=>rfl
theorem roomsOk_none (rs:List (Option Nat×Nat)) (j:Nat) (l:List (Option Nat×Nat)):roomsOk rs ((none,j)::l)=roomsOk rs l:=(rfl)
theorem roomPl_nil:roomPl []=[]:=(rfl)
theorem roomPl_cons (r:Option Nat) (j:Nat) (l:List (Option Nat×Nat)):roomPl ((r,j)::l)= .t j::roomPl l:=(rfl)
theorem goneB_b (idx:List Nat) (rs:List (Option Nat×Nat)) (i j:Nat):goneB idx rs (.b i j)=hasNat i idx:=(rfl)
theorem goneB_c (idx:List Nat) (rs:List (Option Nat×Nat)) (i j:Nat):goneB idx rs (.c i j)=false:=(rfl)
theorem goneB_t (idx:List Nat) (rs:List (Option Nat×Nat)) (t:Nat):goneB idx rs (.t t)=(findS t rs).isSome:=by
 simp only[goneB];cases findS t rs<;>rfl
theorem takeBack_mk (idx:List Nat) (rs:List (Option Nat×Nat)) (l:List (Nat×V)) (bs:List (Option Blk)) (os:List Pl) (dst:Option Nat) (h:Hand):takeBack idx rs ⟨l,bs,os⟩ dst h=
  bindV (renL (outIx idx bs.length) h.vals) fun vs=>bindV (renBs (outIx idx bs.length) h.blocks) fun cs=>condE (headOk idx h.blocks)
   (some (St.putRet ⟨l,setBs idx cs bs++dropL idx cs,renPl (outIx idx bs.length) h.bown++dropPl (goneB idx rs) os⟩ dst ⟨vs,h.own⟩)) none:=by
 unfold takeBack bindV condE
 simp only
 rcases renL (outIx idx bs.length) h.vals with _|vs
 ·rfl
 ·simp only
  rcases renBs (outIx idx bs.length) h.blocks with _|cs
  ·rfl
  ·simp only;cases headOk idx h.blocks<;>rfl
theorem handOn_eq (C:Ctx) (idx:List Nat) (rs:List (Option Nat×Nat)) (st:St) (g:FuncId) (args:List V) (dst:Option Nat):handOn C idx rs st g args dst=
  bindV (renL (idxOf idx) args) fun xs=>bindV (renBs (idxOf idx) (getOs st.blocks idx)) fun bs=>condE (nodupB idx && allSome (getOs st.blocks idx) && roomsOk rs rs)
   (bindV (C.callP g xs bs (renPl (idxOf idx) st.owns++roomPl rs)) fun h=>takeBack idx rs st dst h) none:=by
 unfold handOn bindV condE
 rcases renL (idxOf idx) args with _|xs
 ·rfl
 ·simp only
  rcases renBs (idxOf idx) (getOs st.blocks idx) with _|bs
  ·rfl
  ·simp only
   cases nodupB idx with
   |false=>rfl
   |true=>
    simp only[cond_true,Bool.true_and]
    cases allSome (getOs st.blocks idx) with
    |false=>rfl
    |true=>
     simp only[cond_true,Bool.true_and]
     cases roomsOk rs rs with
     |false=>rfl
     |true=>simp only[cond_true];cases C.callP g xs bs (renPl (idxOf idx) st.owns++roomPl rs)<;>rfl
def handAt (C:Ctx) (idx:List Nat) (rs:List (Option Nat×Nat)) (st:St) (g:FuncId) (args:List V) (dst:Option Nat):Option St:=handOn C idx rs st g args dst
@[congr] theorem handAt_congr {C : Ctx} {idx idx' : List Nat} {rs rs' : List (Option Nat × Nat)} {st : St} {g : FuncId} {args : List V} {dst : Option Nat} (h : idd idx = idx') (h2 : idd rs = rs') : handAt C idx rs st g args dst = handAt C idx' rs' st g args dst := by rw [← h, ← h2]; rfl
theorem handOver_eq (C:Ctx) (rs:List (Option Nat×Nat)) (st:St) (g:FuncId) (args:List V) (dst:Option Nat):handOver C rs st g args dst=handAt C (handed st args) rs st g args dst:=(rfl)
section
variable (C : Ctx) (st : St) (g : FuncId) (args : List V) (dst : Option Nat) (i j k m n : Nat) (rs : List (Option Nat × Nat))
theorem handAt_nil:handAt C [] [] st g args dst=handOn C [] [] st g args dst:=(rfl)
theorem handAt_1:handAt C [i] [] st g args dst=handOn C [i] [] st g args dst:=(rfl)
theorem handAt_2:handAt C [i,j] [] st g args dst=handOn C [i,j] [] st g args dst:=(rfl)
theorem handAt_3:handAt C [i,j,k] [] st g args dst=handOn C [i,j,k] [] st g args dst:=(rfl)
theorem handAt_4:handAt C [i,j,k,m] [] st g args dst=handOn C [i,j,k,m] [] st g args dst:=(rfl)
theorem handAt_5:handAt C [i,j,k,m,n] [] st g args dst=handOn C [i,j,k,m,n] [] st g args dst:=(rfl)
variable (r : Option Nat × Nat)
theorem handAt_nilR:handAt C [] (r::rs) st g args dst=handOn C [] (r::rs) st g args dst:=(rfl)
theorem handAt_1R:handAt C [i] (r::rs) st g args dst=handOn C [i] (r::rs) st g args dst:=(rfl)
theorem handAt_2R:handAt C [i,j] (r::rs) st g args dst=handOn C [i,j] (r::rs) st g args dst:=(rfl)
theorem handAt_3R:handAt C [i,j,k] (r::rs) st g args dst=handOn C [i,j,k] (r::rs) st g args dst:=(rfl)
end
section
variable (C : Ctx) (k : Nat) (st : St)
theorem resP1_ptr (i o:Nat):resP1 C k st (.ptr i o)=some (.ptr i o,st):=(rfl)
theorem resP1_agg (cs:List V):resP1 C k st (.agg cs)=some (.agg cs,st):=(rfl)
theorem resP1_d (x:D):resP1 C k st (.d x)=some (.d x,st):=(rfl)
theorem resP1_mu (i o l c s:Nat):resP1 C k st (.mu i o l c s)=condE (Nat.blt i k) (some (.mu i o l c s,st)) (argV C st (.mu i o l c s)):=by
 simp only[resP1,condE];cases Nat.blt i k<;>rfl
theorem resP1_fn (f:FuncId):resP1 C k st (.fn f [])=some (.fn f [],st):=(rfl)
theorem resVP_nil:resVP C k st []=some ([],st):=(rfl)
theorem resVP_tmp (t:Nat) (rs:List ResultVar):resVP C k st (.tmp t::rs)=bindV (look t st.tmps) fun v=>bindV (resP1 C k st v) fun r=>bindV (resVP C k r.2 rs) fun s=>some (r.1::s.1,s.2):=by
 show (match look t st.tmps with
  |some v=>(match resP1 C k st v with
   |some (v,st)=>(match resVP C k st rs with
    |some (vs,st)=>some (v::vs,st)
    |none=>none)
   |none=>none)
  |none=>none)=_
 rcases look t st.tmps with _|v
 ·rfl
 ·simp only[bindV_some]
  rcases resP1 C k st v with _|⟨u,s⟩
  ·rfl
  ·simp only[bindV_some]
   rcases resVP C k s rs with _|⟨us,s'⟩<;>rfl
theorem resVP_cell (a t:Nat) (rs:List ResultVar):resVP C k st (.cell a t::rs)=bindV (look a st.tmps) fun p=>bindV (evLoad C st t p) fun v=>bindV (resP1 C k st v) fun r=>bindV (resVP C k r.2 rs) fun s=>some (r.1::s.1,s.2):=by
 show (match(match look a st.tmps with|some p=>evLoad C st t p|none=>none) with
  |some v=>(match resP1 C k st v with
   |some (v,st)=>(match resVP C k st rs with
    |some (vs,st)=>some (v::vs,st)
    |none=>none)
   |none=>none)
  |none=>none)=_
 rcases look a st.tmps with _|p
 ·rfl
 ·simp only[bindV_some]
  rcases evLoad C st t p with _|v
  ·rfl
  ·simp only[bindV_some]
   rcases resP1 C k st v with _|⟨u,s⟩
   ·rfl
   ·simp only[bindV_some]
    rcases resVP C k s rs with _|⟨us,s'⟩<;>rfl
end
theorem rangeIs_zero (i:Nat) (l:List Nat):rangeIs i 0 l=true:=by cases l<;>rfl
theorem rangeIs_succ (i k j:Nat) (l:List Nat):rangeIs i (k+1) (j::l)=condE (Nat.beq i j) (rangeIs (i+1) k l) false:=(rfl)
theorem upTo_zero (i:Nat):upTo i 0=[]:=(rfl)
theorem upTo_succ (i k:Nat):upTo i (k+1)=i::upTo (i+1) k:=(rfl)
def finishAt (idx:List Nat) (k:Nat) (st:St) (rs:List ResultVar) (vs:List V):Option Hand:=finishOn idx k st rs vs
@[congr] theorem finishAt_congr {idx idx' : List Nat} {k : Nat} {st : St} {rs : List ResultVar} {vs : List V} (h : idd idx = idx') : finishAt idx k st rs vs = finishAt idx' k st rs vs := by rw [← h]; rfl
theorem finishOn_eq (idx:List Nat) (k:Nat) (st:St) (rs:List ResultVar) (vs:List V):finishOn idx k st rs vs=
  bindV (renL (idxOf idx) vs) fun us=>bindV (renBs (idxOf idx) (getOs st.blocks idx)) fun bs=>condE (nodupB idx && rangeIs 0 k idx)
   (some {vals:=us,own:=(resO st rs 0).map Prod.fst,blocks:=bs,bown:=renPl (idxOf idx) st.owns}) none:=by
 unfold finishOn bindV condE
 rcases renL (idxOf idx) vs with _|us
 ·rfl
 ·simp only
  rcases renBs (idxOf idx) (getOs st.blocks idx) with _|bs
  ·rfl
  ·simp only
   cases nodupB idx with
   |false=>rfl
   |true=>simp only[cond_true,Bool.true_and];cases rangeIs 0 k idx<;>rfl
theorem finishAt_nil (k:Nat) (st:St) (rs:List ResultVar) (vs:List V):finishAt [] k st rs vs=finishOn [] k st rs vs:=(rfl)
theorem finishAt_1 (i:Nat) (k:Nat) (st:St) (rs:List ResultVar) (vs:List V):finishAt [i] k st rs vs=finishOn [i] k st rs vs:=(rfl)
theorem finishAt_2 (i j:Nat) (k:Nat) (st:St) (rs:List ResultVar) (vs:List V):finishAt [i,j] k st rs vs=finishOn [i,j] k st rs vs:=(rfl)
theorem finishAt_3 (i j m:Nat) (k:Nat) (st:St) (rs:List ResultVar) (vs:List V):finishAt [i,j,m] k st rs vs=finishOn [i,j,m] k st rs vs:=(rfl)
theorem finishAt_4 (i j m n:Nat) (k:Nat) (st:St) (rs:List ResultVar) (vs:List V):finishAt [i,j,m,n] k st rs vs=finishOn [i,j,m,n] k st rs vs:=(rfl)
theorem finishAt_5 (i j m n p:Nat) (k:Nat) (st:St) (rs:List ResultVar) (vs:List V):finishAt [i,j,m,n,p] k st rs vs=finishOn [i,j,m,n,p] k st rs vs:=(rfl)
def finishPS (C:Ctx) (k:Nat) (rs:List ResultVar) (st:St):Option Hand:=
 bindV (resVP C k st rs) fun r=>finishAt (reach r.2.blocks r.2.blocks (upTo 0 k++newOf (upTo 0 k) (refsL r.1)) (upTo 0 k++newOf (upTo 0 k) (refsL r.1))) k r.2 rs r.1
theorem finishP_ret (C:Ctx) (k:Nat) (rs:List ResultVar) (st:St):finishP C k rs (some (.ret,st))=finishPS C k rs st:=by
 show (match resVP C k st rs with|some (vs,st)=>_|none=>none)=_
 unfold finishPS bindV finishAt
 rcases resVP C k st rs with _|⟨vs,s⟩<;>rfl
theorem finishP_normal (C:Ctx) (k:Nat) (rs:List ResultVar) (st:St):finishP C k rs (some (.normal,st))=finishPS C k rs st:=by
 show (match resVP C k st rs with|some (vs,st)=>_|none=>none)=_
 unfold finishPS bindV finishAt
 rcases resVP C k st rs with _|⟨vs,s⟩<;>rfl
theorem finishPS_eq (C:Ctx) (k:Nat) (rs:List ResultVar) (st:St):finishPS C k rs st=
  bindV (resVP C k st rs) fun r=>finishAt (reach r.2.blocks r.2.blocks (upTo 0 k++newOf (upTo 0 k) (refsL r.1)) (upTo 0 k++newOf (upTo 0 k) (refsL r.1))) k r.2 rs r.1:=(rfl)
attribute [simp] anyRef_nil anyRef_tmp anyRef_const anyRef_global anyRef_func refOf_none refOf_d refOf_any refOf_skip refOf_gp refOf_tup refOf_mu refOf_ptr refOf_fn refOf_agg hasRef_nil hasRef_cons
 rawHint_some rawHint_none byPtr_eq argP_ptr argP_agg argP_fn argP_mu_raw argP_mu argP_d argP_gp evArgsP_nil evArgsP_cons newOf_nil newOf_cons refsB_none refsB_cells refsB_ints reach_cons reach_nil reach_done getO_cons0 getO_conss
 getOs_nil getOs_cons idxOf_nil idxOf_cons renV_d renV_any renV_skip renV_gp renV_ptr renV_mu renV_fn renV_agg renV_tup renL_nil renL_cons renL_mapd renB_none renB_cells renB_ints renBs_nil renBs_cons
 renPl_nil renPl_t renPl_c renPl_b renPb_some renPb_none refsL_mapd nodupB_nil nodupB_cons allSome_nil allSome_some allSome_none outIx_eq setBs_nil setBs_cons headOk_nil headOk_cons dropL_nil dropL_cons goneB_t goneB_c goneB_b roomsIf_no roomsIf_yes rooms_nil rooms_cons roomC_some roomC_none roomOf_tmp roomOf_const roomOf_func roomK_none roomK_nums roomK_sl roomK_int roomK_bool roomK_str roomK_agg roomK_ifc roomK_nilifc roomK_ptr roomK_mu roomK_fn roomK_aggV
 findS_nil findS_some findS_none sameN_some roomsOk_nil roomsOk_some roomsOk_none roomPl_nil roomPl_cons handAt_nilR handAt_1R handAt_2R handAt_3R isNilD_nums isNilD_sl isNilD_mu isNilD_ptr isNilD_int isNilD_bool isNilD_str isNilD_agg isNilD_ifc isNilD_nilifc isNilD_fp isNilD_nilptr isNilD_fn isNilD_aggV
 handed_mk takeBack_mk handOn_eq handOver_eq handAt_nil handAt_1 handAt_2 handAt_3 handAt_4 handAt_5 resP1_ptr resP1_agg resP1_d resP1_mu resP1_fn resVP_nil resVP_tmp resVP_cell
 rangeIs_zero rangeIs_succ upTo_zero upTo_succ finishOn_eq finishAt_nil finishAt_1 finishAt_2 finishAt_3 finishAt_4 finishAt_5 finishP_ret finishP_normal finishPS_eq
end Go.VM
