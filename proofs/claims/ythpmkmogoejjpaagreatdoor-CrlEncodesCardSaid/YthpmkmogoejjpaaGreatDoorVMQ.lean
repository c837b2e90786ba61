/- The machine over values: what simp reckons by. -/
import Derived.Test.YthpmkmogoejjpaaGreatDoorVMP
set_option linter.unusedSimpArgs false
set_option linter.unusedVariables false
namespace Go.VM
open Go
section
variable (C : Ctx) (st : St)
def ldB (i:TI) (off:Nat):Option Blk→Option V
 |some (.cells _ cs)=>headV i (cs.drop off)
 |some (.ints _ k xs)=>headI i k (xs.drop off)
 |none=>none
theorem ld_fp (t:Nat) (cs:List D):evLoad C st t (.d (.fp cs))=bindV (C.tt t) fun i=>headD i cs:=by
 unfold evLoad bindV;cases C.tt t<;>rfl
theorem ld_ptr (t b off:Nat):evLoad C st t (.ptr b off)=bindV (C.tt t) fun i=>ldB i off (getB st b):=by
 unfold evLoad bindV
 cases C.tt t
 ·rfl
 ·simp only[ldB]
  rcases getB st b with _|B
  ·rfl
  ·cases B<;>rfl
theorem ld_gp (t g off:Nat):evLoad C st t (.gp g off)=bindV (C.tt t) fun i=>bindV (C.glob g) fun cs=>headD i (cs.drop off):=by
 unfold evLoad bindV
 cases C.tt t
 ·rfl
 ·simp only;rcases C.glob g<;>rfl
variable (s b : Nat) (z : List D) (c q : Bool) (x : D) (l : List D) (y : V) (m : List V)
theorem headD_int (k:IntKind):headD ⟨.int k,s,b,z,c,q⟩ (x::l)=some (.d x):=(rfl)
theorem headD_bool:headD ⟨.bool,s,b,z,c,q⟩ (x::l)=some (.d x):=(rfl)
theorem headD_str:headD ⟨.str,s,b,z,c,q⟩ (x::l)=some (.d x):=(rfl)
theorem headD_ptr:headD ⟨.ptr,s,b,z,c,q⟩ (x::l)=some (.d x):=(rfl)
theorem headD_slice (e:Nat):headD ⟨.slice e,s,b,z,c,q⟩ (x::l)=some (.d x):=(rfl)
theorem headD_iface:headD ⟨.iface,s,b,z,c,q⟩ (x::l)=some (.d x):=(rfl)
theorem headD_fn:headD ⟨.fn,s,b,z,c,q⟩ (x::l)=some (.d x):=(rfl)
theorem headD_struct (fs:List (Nat×Nat)):headD ⟨.struct fs,s,b,z,c,q⟩ l=if s≤l.length then some (.d (.agg (l.take s))) else none:=by
 unfold headD
 by_cases h:s≤l.length
 ·simp[TI.isAgg,h,show Nat.ble s l.length=true by simpa[Nat.ble_eq] using h]
 ·have:Nat.ble s l.length=false:=by
   cases e:Nat.ble s l.length with
   |false=>rfl
   |true=>exact absurd (by simpa[Nat.ble_eq] using e) h
  simp[TI.isAgg,h,this]
theorem headD_arr (n e:Nat):headD ⟨.arr n e,s,b,z,c,q⟩ l=if s≤l.length then some (.d (.agg (l.take s))) else none:=headD_struct s b z c q l []
theorem headV_int (k:IntKind):headV ⟨.int k,s,b,z,c,q⟩ (y::m)=some y:=(rfl)
theorem headV_bool:headV ⟨.bool,s,b,z,c,q⟩ (y::m)=some y:=(rfl)
theorem headV_str:headV ⟨.str,s,b,z,c,q⟩ (y::m)=some y:=(rfl)
theorem headV_ptr:headV ⟨.ptr,s,b,z,c,q⟩ (y::m)=some y:=(rfl)
theorem headV_slice (e:Nat):headV ⟨.slice e,s,b,z,c,q⟩ (y::m)=some y:=(rfl)
theorem headV_iface:headV ⟨.iface,s,b,z,c,q⟩ (y::m)=some y:=(rfl)
theorem headV_fn:headV ⟨.fn,s,b,z,c,q⟩ (y::m)=some y:=(rfl)
theorem headV_struct (fs:List (Nat×Nat)):headV ⟨.struct fs,s,b,z,c,q⟩ m=if s≤m.length then some (mkAgg (m.take s)) else none:=by
 unfold headV
 by_cases h:s≤m.length
 ·simp[TI.isAgg,h,show Nat.ble s m.length=true by simpa[Nat.ble_eq] using h]
 ·have:Nat.ble s m.length=false:=by
   cases e:Nat.ble s m.length with
   |false=>rfl
   |true=>exact absurd (by simpa[Nat.ble_eq] using e) h
  simp[TI.isAgg,h,this]
theorem headV_arr (n e:Nat):headV ⟨.arr n e,s,b,z,c,q⟩ m=if s≤m.length then some (mkAgg (m.take s)) else none:=headV_struct s b z c q m []
theorem headI_int (k k' :IntKind) (n:Int) (ns:List Int):headI ⟨.int k,s,b,z,c,q⟩ k' (n::ns)=some (.d (.int k' n)):=(rfl)
def fieldOf (k:TK) (f:Nat):Option (Nat×Nat):=
 match k with
 | .struct fs=>fs[f]?
 |_=>none
theorem fieldOf_struct (fs:List (Nat×Nat)) (f:Nat):fieldOf (.struct fs) f=fs[f]? :=(rfl)
def fldA (o:Nat):V→Option V
 | .ptr b off=>some (.ptr b (off+o))
 | .d (.fp cs)=>some (.d (.fp (cs.drop o)))
 | .gp g off=>some (.gp g (off+o))
 |_=>none
theorem fldA_ptr (o b off:Nat):fldA o (.ptr b off)=some (.ptr b (off+o)):=(rfl)
theorem fldA_fp (o:Nat) (cs:List D):fldA o (.d (.fp cs))=some (.d (.fp (cs.drop o))):=(rfl)
theorem fldA_gp (o g off:Nat):fldA o (.gp g off)=some (.gp g (off+o)):=(rfl)
theorem evFieldAddr_eq (f:Nat) (p:V):evFieldAddr C s f p=bindV (C.tt s) fun i=>bindV (fieldOf i.k f) fun r=>bindV (C.tt r.2) fun j=>if 0<j.size then fldA r.1 p else none:=by
 unfold evFieldAddr
 rcases C.tt s with _|⟨k,s1,b1,z1,c1,q1⟩
 ·rfl
 ·cases k with
  |struct fs=>
   show (match fs[f]? with|some (o,ft)=>_|none=>none)=bindV (fs[f]?) _
   rcases fs[f]? with _|⟨o,ft⟩
   ·rfl
   ·show (match C.tt ft with|some j=>_|none=>none)=bindV (C.tt ft) _
    rcases C.tt ft with _|j
    ·rfl
    ·show (bif Nat.blt 0 j.size then _ else none)=if 0<j.size then _ else none
     by_cases h:0<j.size
     ·rw[show Nat.blt 0 j.size=true by simpa[Nat.blt_eq] using h,if_pos h]
      cases p<;>rfl
     ·have:Nat.blt 0 j.size=false:=by
       cases e:Nat.blt 0 j.size with
       |false=>rfl
       |true=>exact absurd (by simpa[Nat.blt_eq] using e) h
      rw[this,if_neg h];rfl
  |_=>rfl
def fldV (j:TI) (o:Nat):V→Option V
 | .d (.agg cs)=>headD j (cs.drop o)
 | .agg cs=>headV j (cs.drop o)
 |_=>none
theorem fldV_d (j:TI) (o:Nat) (cs:List D):fldV j o (.d (.agg cs))=headD j (cs.drop o):=(rfl)
theorem fldV_v (j:TI) (o:Nat) (cs:List V):fldV j o (.agg cs)=headV j (cs.drop o):=(rfl)
theorem evField_eq (f:Nat) (p:V):evField C s f p=bindV (C.tt s) fun i=>bindV (fieldOf i.k f) fun r=>bindV (C.tt r.2) fun j=>fldV j r.1 p:=by
 unfold evField
 rcases C.tt s with _|⟨k,s1,b1,z1,c1,q1⟩
 ·rfl
 ·cases k with
  |struct fs=>
   show (match fs[f]? with|some (o,ft)=>_|none=>none)=bindV (fs[f]?) _
   rcases fs[f]? with _|⟨o,ft⟩
   ·rfl
   ·show (match C.tt ft with|some j=>_|none=>none)=bindV (C.tt ft) _
    rcases C.tt ft with _|j
    ·rfl
    ·cases p<;>rfl
  |_=>rfl
end
def ixS (sz:Nat) (p:V) (ix:Int):Option V:=
 match p with
 | .d (.nums k _ xs)=>if sz=1 then bindV (xs[ix.toNat]?) fun x=>some (.d (.fp [.int k x])) else none
 | .d (.sl s _ xs)=>if sz=s then bindV (xs[ix.toNat]?) fun c=>some (.d (.fp c)) else none
 | .mu b off len _ s=>if sz=s∧ix<(len:Int) then some (.ptr b (off+ix.toNat*s)) else none
 |_=>none
def ixA (C:Ctx) (k:TK) (p:V) (ix:Int):Option V:=
 match k with
 | .slice e=>bindV (C.tt e) fun j=>ixS j.size p ix
 | .arr n e=>bindV (C.tt e) fun j=>if ix<(n:Int) then fldA (ix.toNat*j.size) p else none
 |_=>none
def ixV (C:Ctx) (k:TK) (v:V) (ix:Int):Option V:=
 match k with
 | .str=>match v with
  | .d (.str s)=>bindV (s[ix.toNat]?) fun c=>some (.d (.int .u8 c))
  |_=>none
 | .arr n e=>bindV (C.tt e) fun j=>if ix<(n:Int) then fldV j (ix.toNat*j.size) v else none
 |_=>none
theorem ixS_nums (k:IntKind) (nl:Bool) (xs:List Int) (ix:Int):ixS 1 (.d (.nums k nl xs)) ix=bindV (xs[ix.toNat]?) fun x=>some (.d (.fp [.int k x])):=(rfl)
theorem ixS_sl (sz s:Nat) (nl:Bool) (xs:List (List D)) (ix:Int):ixS sz (.d (.sl s nl xs)) ix=if sz=s then bindV (xs[ix.toNat]?) fun c=>some (.d (.fp c)) else none:=(rfl)
theorem ixS_mu (sz b off len cap s:Nat) (ix:Int):ixS sz (.mu b off len cap s) ix=if sz=s∧ix<(len:Int) then some (.ptr b (off+ix.toNat*s)) else none:=(rfl)
theorem ixA_slice (C:Ctx) (e:Nat) (p:V) (ix:Int):ixA C (.slice e) p ix=bindV (C.tt e) fun j=>ixS j.size p ix:=(rfl)
theorem ixA_arr (C:Ctx) (n e:Nat) (p:V) (ix:Int):ixA C (.arr n e) p ix=bindV (C.tt e) fun j=>if ix<(n:Int) then fldA (ix.toNat*j.size) p else none:=(rfl)
theorem ixV_str (C:Ctx) (s:List Int) (ix:Int):ixV C .str (.d (.str s)) ix=bindV (s[ix.toNat]?) fun c=>some (.d (.int .u8 c)):=(rfl)
theorem ixV_arr (C:Ctx) (n e:Nat) (v:V) (ix:Int):ixV C (.arr n e) v ix=bindV (C.tt e) fun j=>if ix<(n:Int) then fldV j (ix.toNat*j.size) v else none:=(rfl)
theorem nbeq_ite {α:Type} (a b:Nat) (x y:α):(bif Nat.beq a b then x else y)=if a=b then x else y:=by
 by_cases h:a=b
 ·subst h;simp
 ·simp[h,nbeq_false h]
theorem dec_ite {α:Type} (p:Prop) [Decidable p] (x y:α):(bif decide p then x else y)=if p then x else y:=by
 by_cases h:p<;>simp[h]
theorem evIndexAddr_eq (C:Ctx) (t:Nat) (p:V) (ix:Int):evIndexAddr C t p ix=if 0≤ix then bindV (C.tt t) fun i=>ixA C i.k p ix else none:=by
 unfold evIndexAddr
 rw[dec_ite]
 congr 1
 rcases C.tt t with _|⟨k,s1,b1,z1,c1,q1⟩
 ·rfl
 ·cases k with
  |slice e=>
   show (match C.tt e with|some j=>_|none=>none)=bindV (C.tt e) _
   rcases C.tt e with _|j
   ·rfl
   ·show _=ixS j.size p ix
    cases p with
    |d d=>
     cases d with
     |nums k nl xs=>simp only[nbeq_ite];unfold ixS;congr 1;rcases xs[ix.toNat]? <;>rfl
     |sl s nl xs=>simp only[nbeq_ite];unfold ixS;congr 1;rcases xs[ix.toNat]? <;>rfl
     |_=>rfl
    |mu b off len cap s=>
     simp only
     unfold ixS
     by_cases h1:j.size=s
     ·by_cases h2:ix<(len:Int)
      ·simp[h1,h2]
      ·simp[h1,h2]
     ·simp[h1,nbeq_false h1]
    |_=>rfl
  |arr n e=>
   show (match C.tt e with|some j=>_|none=>none)=bindV (C.tt e) _
   rcases C.tt e with _|j
   ·rfl
   ·show (bif decide (ix<(n:Int)) then _ else none)=if ix<(n:Int) then _ else none
    rw[dec_ite]
    first|(cases p<;>rfl)|(congr 1;cases p<;>rfl)
  |_=>rfl
theorem evIndex_eq (C:Ctx) (t:Nat) (p:V) (ix:Int):evIndex C t p ix=if 0≤ix then bindV (C.tt t) fun i=>ixV C i.k p ix else none:=by
 unfold evIndex
 rw[dec_ite]
 congr 1
 rcases C.tt t with _|⟨k,s1,b1,z1,c1,q1⟩
 ·rfl
 ·cases k with
  |str=>
   cases p with
   |d d=>
    cases d with
    |str s=>
     show (match s[ix.toNat]? with|some c=>_|none=>none)=bindV (s[ix.toNat]?) _
     rcases s[ix.toNat]? <;>rfl
    |_=>rfl
   |_=>rfl
  |arr n e=>
   show (match C.tt e with|some j=>_|none=>none)=bindV (C.tt e) _
   rcases C.tt e with _|j
   ·rfl
   ·show (bif decide (ix<(n:Int)) then _ else none)=if ix<(n:Int) then _ else none
    rw[dec_ite]
    first|(cases p<;>rfl)|(congr 1;cases p<;>rfl)
  |_=>rfl
def lenK (k:TK) (x:V):Option Nat:=
 match k,x with
 | .str,.d (.str s)=>some s.length
 | .slice _,.d (.nums _ _ xs)=>some xs.length
 | .slice _,.d (.sl _ _ xs)=>some xs.length
 | .slice _,.mu _ _ len _ _=>some len
 | .arr n _,_=>bif Nat.ble n 1000000 then some n else none
 |_,_=>none
theorem lenV_eq (C:Ctx) (t:Nat) (x:V):lenV C t x=bindV (C.tt t) fun i=>lenK i.k x:=by
 unfold lenV bindV
 rcases C.tt t<;>rfl
theorem lenK_str (s:List Int):lenK .str (.d (.str s))=some s.length:=(rfl)
theorem lenK_nums (e:Nat) (k:IntKind) (nl:Bool) (xs:List Int):lenK (.slice e) (.d (.nums k nl xs))=some xs.length:=(rfl)
theorem lenK_sl (e s:Nat) (nl:Bool) (xs:List (List D)):lenK (.slice e) (.d (.sl s nl xs))=some xs.length:=(rfl)
theorem lenK_mu (e b o l c s:Nat):lenK (.slice e) (.mu b o l c s)=some l:=(rfl)
def convK (C:Ctx) (st:St) (s d:TK) (x:V):Option (V×Bool):=
 match d,x with
  | .int k,.d (.int _ n)=>some (.d (.int k (k.wrap n)),false)
  | .str,.d (.str l)=>some (.d (.str l),false)
  | .str,.d (.nums .u8 _ xs)=>match s with
   | .slice e=>match C.tt e with
    |some {k:= .int .u8,.. }=>some (.d (.str xs),false)
    |_=>none
   |_=>none
  | .str,.mu b off len _ sz=>match s with
   | .slice e=>match C.tt e,getB st b with
    |some {k:= .int .u8,.. },some (.ints _ .u8 xs)=>bif Nat.beq sz 1 then some (.d (.str ((xs.drop off).take len)),false) else none
    |_,_=>none
   |_=>none
  | .slice e,.d (.str l)=>match C.tt e with
   |some {k:= .int .u8,.. }=>some (.d (.nums .u8 false l),false)
   |_=>none
  |_,_=>none
def isU8 (j:TI):Bool:=match j.k with| .int .u8=>true|_=>false
theorem evConv_eq (C:Ctx) (st:St) (s d:Nat) (x:V):evConv C st s d x=bindV (C.tt s) fun i=>bindV (C.tt d) fun j=>convK C st i.k j.k x:=by
 unfold evConv
 rcases C.tt s with _|i
 ·rfl
 ·rcases C.tt d with _|j<;>rfl
theorem conv_int (C:Ctx) (st:St) (s:TK) (k k' :IntKind) (n:Int):convK C st s (.int k) (.d (.int k' n))=some (.d (.int k (k.wrap n)),false):=(rfl)
theorem conv_ss (C:Ctx) (st:St) (s:TK) (l:List Int):convK C st s .str (.d (.str l))=some (.d (.str l),false):=(rfl)
theorem conv_ns (C:Ctx) (st:St) (e:Nat) (nl:Bool) (l:List Int):convK C st (.slice e) .str (.d (.nums .u8 nl l))=bindV (C.tt e) fun j=>condE (isU8 j) (some (.d (.str l),false)) none:=by
 show (match C.tt e with|some {k:= .int .u8,.. }=>some (V.d (.str l),false)|_=>none)=_
 rcases C.tt e with _|⟨k,_,_,_,_,_⟩
 ·rfl
 ·cases k with
  |int k=>cases k<;>rfl
  |_=>rfl
theorem conv_sn (C:Ctx) (st:St) (s:TK) (e:Nat) (l:List Int):convK C st s (.slice e) (.d (.str l))=bindV (C.tt e) fun j=>condE (isU8 j) (some (.d (.nums .u8 false l),false)) none:=by
 show (match C.tt e with|some {k:= .int .u8,.. }=>some (V.d (.nums .u8 false l),false)|_=>none)=_
 rcases C.tt e with _|⟨k,_,_,_,_,_⟩
 ·rfl
 ·cases k with
  |int k=>cases k<;>rfl
  |_=>rfl
def elemK (k:TK):Option Nat:=match k with| .slice e=>some e|_=>none
theorem elemK_slice (e:Nat):elemK (.slice e)=some e:=(rfl)
theorem slice_nums1 (C:Ctx) (st:St) (t:Nat) (k:IntKind) (nl:Bool) (xs:List Int) (lo:Int):evSlice C st t (.d (.nums k nl xs)) lo none none=
  bindV (C.tt t) fun i=>bindV (elemK i.k) fun e=>bindV (C.tt e) fun j=>if j.size=1∧0≤lo∧lo≤xs.length then some (.d (.nums k nl (xs.drop lo.toNat)),false) else none:=by
 unfold evSlice
 rcases C.tt t with _|⟨tk,s1,b1,z1,c1,q1⟩
 ·rfl
 ·cases tk with
  |slice e=>
   show (match C.tt e with|some j=>_|none=>none)=bindV (C.tt e) _
   rcases C.tt e with _|j
   ·rfl
   ·simp only[bindV_some,Option.getD_none,Option.isSome_none,Bool.false_and,Int.toNat_natCast,List.take_length]
    by_cases h:j.size=1∧0≤lo∧lo≤xs.length
    ·obtain⟨h1,h2,h3⟩:=h
     simp[h1,h2,h3]
    ·rw[if_neg h]
     by_cases h1:j.size=1
     ·by_cases h2:0≤lo
      ·have h3: ¬lo≤xs.length:=fun h3=>h ⟨h1,h2,h3⟩
       simp[h1,h2,h3]
      ·simp[h1,h2]
     ·simp[nbeq_false h1]
  |_=>rfl
def wantT (want:Bool) (r:Option V):Option Bool:=
 match r with
 |some (.d (.bool b))=>some (b==want)
 |some .skip=>some false
 |_=>none
theorem wantT_true (b:Bool):wantT true (some (.d (.bool b)))=some b:=by cases b<;>rfl
theorem wantT_false (b:Bool):wantT false (some (.d (.bool b)))=some (!b):=by cases b<;>rfl
theorem wantT_skip (w:Bool):wantT w (some .skip)=some false:=(rfl)
theorem wantedV_eq (ops:Array Oper) (st:St) (dst:Option Tmp) (op:Op) (ty:TypeId) (pos:String) (af:Array Edge) (j:Nat) (want:Bool):
  wantedV ops st ⟨dst,op,ty,pos,af,some (j,want)⟩=bindV (ops[j]?) fun oj=>bindV oj.dst fun t=>wantT want (look t st.tmps):=by
 show (match ops[j]? with
  |some oj=>(match oj.dst with
   |some t=>(match look t st.tmps with
    |some (.d (.bool b))=>some (b==want)
    |some .skip=>some false
    |_=>none)
   |none=>none)
  |none=>none)=_
 rcases ops[j]? with _|oj
 ·rfl
 ·show (match oj.dst with
   |some t=>(match look t st.tmps with
    |some (.d (.bool b))=>some (b==want)
    |some .skip=>some false
    |_=>none)
   |none=>none)=bindV oj.dst _
  rcases oj.dst<;>rfl
def andI (k:IntKind) (x y:Int):Int:=k.wrap (BitVec.ofInt k.bits x &&& BitVec.ofInt k.bits y).toNat
def orI (k:IntKind) (x y:Int):Int:=k.wrap (BitVec.ofInt k.bits x|||BitVec.ofInt k.bits y).toNat
def xorI (k:IntKind) (x y:Int):Int:=k.wrap (BitVec.ofInt k.bits x^^^BitVec.ofInt k.bits y).toNat
section
variable (C : Ctx) (t : Nat) (ox oy : Operand) (k k' : IntKind) (x y : Int)
theorem kbeq:(k==k)=true:=by cases k<;>rfl
theorem bin_add:evBin C .add t ox oy (.d (.int k x)) (.d (.int k y))=some (.int k (k.wrap (x+y))):=by simp only[evBin,kbeq];rfl
theorem bin_sub:evBin C .sub t ox oy (.d (.int k x)) (.d (.int k y))=some (.int k (k.wrap (x-y))):=by simp only[evBin,kbeq];rfl
theorem bin_mul:evBin C .mul t ox oy (.d (.int k x)) (.d (.int k y))=some (.int k (k.wrap (x*y))):=by simp only[evBin,kbeq];rfl
theorem bin_quo:evBin C .quo t ox oy (.d (.int k x)) (.d (.int k y))=if y=0 then none else some (.int k (k.wrap (x.tdiv y))):=by
 simp only[evBin,kbeq,evInt,cond_true]
 by_cases h:y=0
 ·simp[h]
 ·rw[show (y==0)=false by simpa using h,if_neg h];rfl
theorem bin_rem:evBin C .rem t ox oy (.d (.int k x)) (.d (.int k y))=if y=0 then none else some (.int k (k.wrap (x.tmod y))):=by
 simp only[evBin,kbeq,evInt,cond_true]
 by_cases h:y=0
 ·simp[h]
 ·rw[show (y==0)=false by simpa using h,if_neg h];rfl
theorem bin_eql:evBin C .eql t ox oy (.d (.int k x)) (.d (.int k y))=some (.bool (decide (x=y))):=by simp only[evBin,kbeq,evInt,cond_true];congr 2
theorem bin_neq:evBin C .neq t ox oy (.d (.int k x)) (.d (.int k y))=some (.bool (!decide (x=y))):=by simp only[evBin,kbeq,evInt,cond_true];congr 2
theorem bin_lss:evBin C .lss t ox oy (.d (.int k x)) (.d (.int k y))=some (.bool (decide (x<y))):=by simp only[evBin,kbeq];rfl
theorem bin_leq:evBin C .leq t ox oy (.d (.int k x)) (.d (.int k y))=some (.bool (decide (x≤y))):=by simp only[evBin,kbeq];rfl
theorem bin_gtr:evBin C .gtr t ox oy (.d (.int k x)) (.d (.int k y))=some (.bool (decide (y<x))):=by simp only[evBin,kbeq];rfl
theorem bin_geq:evBin C .geq t ox oy (.d (.int k x)) (.d (.int k y))=some (.bool (decide (y≤x))):=by simp only[evBin,kbeq];rfl
theorem bin_and:evBin C .and t ox oy (.d (.int k x)) (.d (.int k y))=some (.int k (andI k x y)):=by simp only[evBin,kbeq];rfl
theorem bin_or:evBin C .or t ox oy (.d (.int k x)) (.d (.int k y))=some (.int k (orI k x y)):=by simp only[evBin,kbeq];rfl
theorem bin_xor:evBin C .xor t ox oy (.d (.int k x)) (.d (.int k y))=some (.int k (xorI k x y)):=by simp only[evBin,kbeq];rfl
theorem bin_shl:evBin C .shl t ox oy (.d (.int k x)) (.d (.int k' y))=if 0≤y then some (.int k (k.wrap (x*2^(min y.toNat k.bits)))) else none:=by
 simp only[evBin,evShift,dec_ite]
theorem bin_shr:evBin C .shr t ox oy (.d (.int k x)) (.d (.int k' y))=if 0≤y then some (.int k (k.wrap (x.fdiv (2^(min y.toNat k.bits))))) else none:=by
 simp only[evBin,evShift,dec_ite]
variable (a b : List Int)
theorem bin_seql:evBin C .eql t ox oy (.d (.str a)) (.d (.str b))=some (.bool (decide (a=b))):=by
 have:(a==b)=decide (a=b):=by
  by_cases h:a=b<;>simp[h]
 simp only[evBin,this]
theorem bin_sneq:evBin C .neq t ox oy (.d (.str a)) (.d (.str b))=some (.bool (!decide (a=b))):=by
 have:(a==b)=decide (a=b):=by
  by_cases h:a=b<;>simp[h]
 simp only[evBin,this]
theorem bin_sadd:evBin C .add t ox oy (.d (.str a)) (.d (.str b))=if a.length+b.length≤maxStr then some (.str (a++b)) else none:=by
 simp only[evBin,dec_ite]
def eqK (C:Ctx) (t:Nat) (k:TK) (e:Bool) (ox oy:Operand) (x y:V):Option Bool:=
 match k with
  | .bool=>match x,y with
   | .d (.bool p),.d (.bool q)=>some (p==q)
   |_,_=>none
  | .int _=>match x,y with
   | .d (.int k n),.d (.int k' m)=>bif k==k' then some (n==m) else none
   |_,_=>none
  | .str=>match x,y with
   | .d (.str p),.d (.str q)=>some (p==q)
   |_,_=>none
  | .slice _=>bif litNil oy then nilOf x else bif litNil ox then nilOf y else none
  | .ptr=>match nilPtr x,nilPtr y with
   |some true,some b=>some b
   |some false,some true=>some false
   |_,_=>none
  | .iface=>match x,y with
   | .d .nilifc,.d .nilifc=>bif isCst ox||isCst oy then some true else none
   | .d .nilifc,.d (.ifc _ _)=>some false
   | .d (.ifc _ _),.d .nilifc=>some false
   | .d (.ifc s p),.d (.ifc u q)=>eqT C.tt eqFuel t (.ifc s p) (.ifc u q)
   |_,_=>none
  | .struct _=>match x,y with
   | .d (.agg p),.d (.agg q)=>bif e then eqT C.tt eqFuel t (.agg p) (.agg q) else none
   |_,_=>none
  | .arr _ _=>match x,y with
   | .d (.agg p),.d (.agg q)=>bif e then eqT C.tt eqFuel t (.agg p) (.agg q) else none
   |_,_=>none
  |_=>none
theorem evEq_eq (x y:V):evEq C t ox oy x y=bindV (C.tt t) fun i=>eqK C t i.k i.eq ox oy x y:=by
 unfold evEq
 rcases C.tt t with _|⟨k,s1,b1,z1,c1,q1⟩
 ·rfl
 ·cases k<;>rfl
theorem eqK_bool (e p q:Bool):eqK C t .bool e ox oy (.d (.bool p)) (.d (.bool q))=some (p==q):=(rfl)
theorem eqK_slice_r (n:Nat) (e:Bool) (v w:V) (h:litNil oy=true):eqK C t (.slice n) e ox oy v w=nilOf v:=by simp[eqK,h]
theorem eqK_nil (e:Bool):eqK C t .iface e ox oy (.d .nilifc) (.d .nilifc)=bif isCst ox||isCst oy then some true else none:=(rfl)
theorem eqK_nil_ifc (e:Bool) (s:Nat) (p:D):eqK C t .iface e ox oy (.d .nilifc) (.d (.ifc s p))=some false:=(rfl)
theorem eqK_ifc_nil (e:Bool) (s:Nat) (p:D):eqK C t .iface e ox oy (.d (.ifc s p)) (.d .nilifc)=some false:=(rfl)
theorem eqK_ifc (e:Bool) (s u:Nat) (p q:D):eqK C t .iface e ox oy (.d (.ifc s p)) (.d (.ifc u q))=eqT C.tt eqFuel t (.ifc s p) (.ifc u q):=(rfl)
theorem bin_eq_nilifc (v:V):evBin C .eql t ox oy (.d .nilifc) v=yesB (evEq C t ox oy (.d .nilifc) v):=(rfl)
theorem bin_ne_nilifc (v:V):evBin C .neq t ox oy (.d .nilifc) v=notB (evEq C t ox oy (.d .nilifc) v):=(rfl)
theorem bin_eq_ifc (s:Nat) (p:D) (v:V):evBin C .eql t ox oy (.d (.ifc s p)) v=yesB (evEq C t ox oy (.d (.ifc s p)) v):=(rfl)
theorem bin_ne_ifc (s:Nat) (p:D) (v:V):evBin C .neq t ox oy (.d (.ifc s p)) v=notB (evEq C t ox oy (.d (.ifc s p)) v):=(rfl)
theorem bin_eq_bool (p:Bool) (v:V):evBin C .eql t ox oy (.d (.bool p)) v=yesB (evEq C t ox oy (.d (.bool p)) v):=(rfl)
theorem bin_ne_bool (p:Bool) (v:V):evBin C .neq t ox oy (.d (.bool p)) v=notB (evEq C t ox oy (.d (.bool p)) v):=(rfl)
theorem bin_eq_nums (nl:Bool) (v:V):evBin C .eql t ox oy (.d (.nums k nl a)) v=yesB (evEq C t ox oy (.d (.nums k nl a)) v):=(rfl)
theorem bin_ne_nums (nl:Bool) (v:V):evBin C .neq t ox oy (.d (.nums k nl a)) v=notB (evEq C t ox oy (.d (.nums k nl a)) v):=(rfl)
theorem bin_eq_sl (s:Nat) (nl:Bool) (a:List (List D)) (v:V):evBin C .eql t ox oy (.d (.sl s nl a)) v=yesB (evEq C t ox oy (.d (.sl s nl a)) v):=(rfl)
theorem bin_ne_sl (s:Nat) (nl:Bool) (a:List (List D)) (v:V):evBin C .neq t ox oy (.d (.sl s nl a)) v=notB (evEq C t ox oy (.d (.sl s nl a)) v):=(rfl)
theorem yesB_some (b:Bool):yesB (some b)=some (.bool b):=(rfl)
theorem notB_some (b:Bool):notB (some b)=some (.bool (!b)):=(rfl)
end
def isIface (k:TK):Bool:=match k with| .iface=>true|_=>false
def isIntK (k:TK):Bool:=match k with| .int _=>true|_=>false
theorem isIface_iface:isIface .iface=true:=(rfl)
theorem isIntK_int (k:IntKind):isIntK (.int k)=true:=(rfl)
theorem isU8_u8 (s b:Nat) (z:List D) (c q:Bool):isU8 ⟨.int .u8,s,b,z,c,q⟩=true:=(rfl)
theorem eqT_ifc (tt:Nat→Option TI) (f t s u:Nat) (p q:D):eqT tt (f+1) t (.ifc s p) (.ifc u q)=
  bindV (tt t) fun i=>condE (isIface i.k) (if s=u then bindV (tt s) fun j=>condE j.cmp (eqT tt f s p q) none else some false) none:=by
 conv=>lhs;unfold eqT
 rcases tt t with _|⟨k,s1,b1,z1,c1,q1⟩
 ·rfl
 ·cases k with
  |iface=>
   show (bif Nat.beq s u then _ else some false)=if s=u then _ else some false
   rw[nbeq_ite]
   congr 1
   rcases tt s with _|⟨k,s1,b1,z1,c1,q1⟩
   ·rfl
   ·cases c1<;>rfl
  |_=>rfl
theorem eqT_int (tt:Nat→Option TI) (f t:Nat) (k:IntKind) (n m:Int):eqT tt (f+1) t (.int k n) (.int k m)=
  bindV (tt t) fun i=>condE (isIntK i.k) (some (decide (n=m))) none:=by
 conv=>lhs;unfold eqT
 rcases tt t with _|⟨k',s1,b1,z1,c1,q1⟩
 ·rfl
 ·cases k' with
  |int k' =>
   show (bif k==k then some (n==m) else none)=some (decide (n=m))
   rw[kbeq]
   show some (n==m)=_
   congr 1
  |_=>rfl
theorem eqT_60 (tt:Nat→Option TI) (t s u:Nat) (p q:D):eqT tt eqFuel t (.ifc s p) (.ifc u q)=
  bindV (tt t) fun i=>condE (isIface i.k) (if s=u then bindV (tt s) fun j=>condE j.cmp (eqT tt 59 s p q) none else some false) none:=eqT_ifc tt 59 t s u p q
theorem eqT_59 (tt:Nat→Option TI) (t:Nat) (k:IntKind) (n m:Int):eqT tt 59 t (.int k n) (.int k m)=
  bindV (tt t) fun i=>condE (isIntK i.k) (some (decide (n=m))) none:=eqT_int tt 58 t k n m
theorem pbeq_tt (a b:Nat):Pl.beq (.t a) (.t b)=Nat.beq a b:=(rfl)
theorem pbeq_tc (a b c:Nat):Pl.beq (.t a) (.c b c)=false:=(rfl)
theorem pbeq_tb (a b c:Nat):Pl.beq (.t a) (.b b c)=false:=(rfl)
theorem pbeq_ct (a b c:Nat):Pl.beq (.c b c) (.t a)=false:=(rfl)
theorem pbeq_cc (a b c d:Nat):Pl.beq (.c a b) (.c c d)=(Nat.beq a c && Nat.beq b d):=(rfl)
theorem pbeq_cb (a b c d:Nat):Pl.beq (.c a b) (.b c d)=false:=(rfl)
theorem pbeq_bt (a b c:Nat):Pl.beq (.b b c) (.t a)=false:=(rfl)
theorem pbeq_bc (a b c d:Nat):Pl.beq (.b a b) (.c c d)=false:=(rfl)
theorem pbeq_bb (a b c d:Nat):Pl.beq (.b a b) (.b c d)=(Nat.beq a c && Nat.beq b d):=(rfl)
theorem nbeq_dec (a b:Nat):Nat.beq a b=decide (a=b):=by
 by_cases h:a=b
 ·subst h;simp
 ·simp[h,nbeq_false h]
theorem ofTmp_t (t u:Nat):Pl.ofTmp t (.t u)=decide (u=t):=nbeq_dec u t
theorem ofTmp_c (t u j:Nat):Pl.ofTmp t (.c u j)=decide (u=t):=nbeq_dec u t
theorem ofTmp_b (t i j:Nat):Pl.ofTmp t (.b i j)=false:=(rfl)
theorem dropPl_cons (f:Pl→Bool) (q:Pl) (l:List Pl):dropPl f (q::l)=condE (f q) (dropPl f l) (q::dropPl f l):=(rfl)
theorem hasPl_nil (p:Pl):hasPl p []=false:=(rfl)
theorem hasPl_cons (p q:Pl) (l:List Pl):hasPl p (q::l)=condE (Pl.beq p q) true (hasPl p l):=(rfl)
theorem give_cons (l:List (Nat×V)) (bs:List (Option Blk)) (os:List Pl) (r p q:Pl):St.give ⟨l,bs,r::os⟩ p q=condE (hasPl p (r::os)) ⟨l,bs,q::dropPl (Pl.beq p) (r::os)⟩ ⟨l,bs,r::os⟩:=by
 unfold St.give
 cases h:hasPl p (r::os)<;>rfl
theorem own_mk (l:List (Nat×V)) (bs:List (Option Blk)) (os:List Pl) (d:Nat):St.own ⟨l,bs,os⟩ (some d) true=⟨l,bs,.t d::os⟩:=(rfl)
theorem inLin_some (C:Ctx) (d:Nat):inLin C (some d)=hasNat d C.lin:=(rfl)
theorem inLin_none (C:Ctx):inLin C none=false:=(rfl)
theorem hasNat_nil (n:Nat):hasNat n []=false:=(rfl)
theorem hasNat_cons (n m:Nat) (l:List Nat):hasNat n (m::l)=condE (decide (n=m)) true (hasNat n l):=by
 simp only[hasNat,nbeq_dec];rfl
theorem asD_d (C:Ctx) (st:St) (x:D):asD C st (.d x)=some (x,st):=(rfl)
theorem un_not (b:Bool):evUn .not (.d (.bool b))=some (.bool (!b)):=(rfl)
theorem refsL_nil:refsL []=[]:=(rfl)
theorem refsL_cons (v:V) (l:List V):refsL (v::l)=refs v++refsL l:=(rfl)
theorem refs_d (x:D):refs (.d x)=[]:=(rfl)
theorem refs_fn (f:FuncId) (cs:List V):refs (.fn f cs)=refsL cs:=(rfl)
theorem refs_gp (g o:Nat):refs (.gp g o)=[]:=(rfl)
theorem evO_func (C:Ctx) (st:St) (t:Nat) (f:FuncId):evO C st t (.func f)=some (.fn f []):=(rfl)
theorem evO_str (C:Ctx) (st:St) (t:Nat) (s:ByteArray):evO C st t (.const (.string s))=if(bytesI s).length≤1000000 then some (.d (.str (bytesI s))) else none:=by
 have el:(bytesI s).length=s.size:=by simp[bytesI]
 rw[el]
 show (match(bif Nat.ble s.size 1000000 then some (D.str (bytesI s)) else none) with|some x=>some (V.d x)|none=>none)=_
 by_cases h:s.size≤1000000
 ·rw[show Nat.ble s.size 1000000=true by simpa[Nat.ble_eq] using h,if_pos h];rfl
 ·have:Nat.ble s.size 1000000=false:=by
   cases e:Nat.ble s.size 1000000 with
   |false=>rfl
   |true=>exact absurd (by simpa[Nat.ble_eq] using e) h
  rw[this,if_neg h];rfl
def nilSl (i:TI):D:=match i.k with| .int k=> .nums k true []|_=> .sl i.size true []
theorem evO_nilsl (C:Ctx) (st:St) (t:Nat):evO C st t (.const (.slice none 0 0))=bindV (C.tt t) fun i=>bindV (elemK i.k) fun e=>bindV (C.tt e) fun j=>some (.d (nilSl j)):=by
 show (match absT C.tt t (.slice none 0 0) with|some x=>some (V.d x)|none=>none)=_
 unfold absT
 rcases C.tt t with _|⟨k,s1,b1,z1,c1,q1⟩
 ·rfl
 ·cases k with
  |slice e=>
   show (match(match C.tt e with|some {k:= .int k,.. }=>some (D.nums k true [])|some i=>some (.sl i.size true [])|none=>none) with|some x=>some (V.d x)|none=>none)=bindV (C.tt e) _
   rcases C.tt e with _|⟨k,s1,b1,z1,c1,q1⟩
   ·rfl
   ·cases k<;>rfl
  |_=>rfl
theorem argV_fn (C:Ctx) (st:St) (f:FuncId):argV C st (.fn f [])=some (.fn f [],st):=(rfl)
theorem callW (C:Ctx) (st:St) (f:FuncId) (args:List V) (dst:Option Nat):callWith C st f args dst=match refsL args with
  |[]=>bindV (C.call f args) fun r=>match refsL r.vals with
   |[]=>some (st.putRet dst r)
   |_=>none
  |_=>none:=by
 cases h:refsL args with
 |nil=>exact callWith_eq C st f args dst h
 |cons i l=>unfold callWith;rw[h]
theorem passTup_mk (l:List (Nat×V)) (bs:List (Option Blk)) (os:List Pl) (s d:Nat):St.passTup ⟨l,bs,os⟩ (.tmp s) (some d)=⟨l,bs,giveC s d os⟩:=(rfl)
theorem giveC_nil (s d:Nat):giveC s d []=[]:=(rfl)
theorem giveC_t (s d u:Nat) (l:List Pl):giveC s d (.t u::l)= .t u::giveC s d l:=(rfl)
theorem giveC_b (s d i j:Nat) (l:List Pl):giveC s d (.b i j::l)= .b i j::giveC s d l:=(rfl)
theorem giveC_c (s d u j:Nat) (l:List Pl):giveC s d (.c u j::l)= .c (if u=s then d else u) j::giveC s d l:=by
 by_cases h:u=s
 ·subst h;simp[giveC]
 ·simp[giveC,h,nbeq_false h]
attribute [simp] passTup_mk giveC_nil giveC_t giveC_b giveC_c
theorem nble_dec (a b:Nat):Nat.ble a b=decide (a≤b):=by
 by_cases h:a≤b
 ·rw[show Nat.ble a b=true by simpa[Nat.ble_eq] using h];simp[h]
 ·have:Nat.ble a b=false:=by
   cases e:Nat.ble a b with
   |false=>rfl
   |true=>exact absurd (by simpa[Nat.ble_eq] using e) h
  rw[this];simp[h]
theorem nblt_dec (a b:Nat):Nat.blt a b=decide (a<b):=by
 by_cases h:a<b
 ·rw[show Nat.blt a b=true by simpa[Nat.blt_eq] using h];simp[h]
 ·have:Nat.blt a b=false:=by
   cases e:Nat.blt a b with
   |false=>rfl
   |true=>exact absurd (by simpa[Nat.blt_eq] using e) h
  rw[this];simp[h]
theorem wrap_ok {k:IntKind} {n:Int} (h1:k.min≤n) (h2:n≤k.max):k.wrap n=n:=(wrap_iff k n).2 ⟨h1,h2⟩
attribute [simp] nble_dec nblt_dec nbeq_dec
attribute [simp ↓] bindE_normal bindE_exit bindE_ret bindE_none bindS_some bindV_some bindS_none bindV_none condE_true condE_false blockE_normal blockE_ret ev_seq ev_region ev_block ev_cond ev_exit ev_ret ev_skip ev_label ev_scope evOps_nil evOps_cons evOps_guard
attribute [simp] bindE_normal bindE_exit bindE_ret bindE_none bindS_some bindV_some bindS_none bindV_none condE_true condE_false asB_d asI_d asT_d op_move op_assign op_pick op_bin op_un op_extract op_field op_fieldAddr
 op_index op_indexAddr op_load op_store op_alloc op_makeInterface op_convert op_nilCheck op_build op_buildSlice op_slice1 own_no own_mk op_call op_builtin b_len look_cons look_nil ins_cons ins_nil put_mk put_none pass_no pass_tmp pass_const pass_func give_nil give_cons dropPl_nil dropPl_cons
 isTup_d isTup_tup isTup_fn isTup_ptr isTup_mu evO_tmp evO_bool evO_int evO_nilifc evO_func evO_str evO_nilsl nilSl argsT blockE_normal blockE_ret blockE_exit lenV_eq lenK_str lenK_nums lenK_sl lenK_mu inLin_some inLin_none hasNat_nil hasNat_cons wrap_ok IntKind.min IntKind.max IntKind.bits IntKind.signed
 ld_fp ld_ptr ld_gp headD_int headD_bool headD_str headD_ptr headD_slice headD_iface headD_fn headD_struct headD_arr headV_int headV_bool headV_str headV_ptr headV_slice headV_iface headV_fn headV_struct headV_arr headI_int
 fieldOf_struct fldA_ptr fldA_fp fldA_gp evFieldAddr_eq fldV_d fldV_v evField_eq ixS_nums ixS_sl ixS_mu ixA_slice ixA_arr ixV_str ixV_arr evIndexAddr_eq evIndex_eq evConv_eq conv_int conv_ss conv_ns conv_sn slice_nums1 elemK_slice
 wantT_true wantT_false wantT_skip wantedV_eq bin_add bin_sub bin_mul bin_quo bin_rem bin_eql bin_neq bin_lss bin_leq bin_gtr bin_geq bin_and bin_or bin_xor bin_shl bin_shr bin_seql bin_sneq bin_sadd
 evEq_eq eqK_bool eqK_slice_r eqK_nil eqK_nil_ifc eqK_ifc_nil eqK_ifc bin_eq_nilifc bin_ne_nilifc bin_eq_ifc bin_ne_ifc bin_eq_bool bin_ne_bool bin_eq_nums bin_ne_nums bin_eq_sl bin_ne_sl yesB_some notB_some
 isIface_iface isIntK_int isU8_u8 eqT_60 eqT_59 pbeq_tt pbeq_tc pbeq_tb pbeq_ct pbeq_cc pbeq_cb pbeq_bt pbeq_bc pbeq_bb ofTmp_t ofTmp_c ofTmp_b hasPl_nil hasPl_cons asD_d un_not refsL_nil refsL_cons refs_d refs_fn refs_gp argV_d argV_fn
 finish_ret finish_normal finishS_eq resV_nil resV_tmp resO resO.dropJ evArgs_nil evArgs_cons callW putRet_1 putRet_2 ownC isCst litNil nilOf isSl allI allD litCells partsAt fillV cellsV splice rep chunk
end Go.VM
