/- A machine over values for the loaded program's code: definitions. Over any program; nothing of a seat stands in it. -/
import Derived.Laws.AppendOwn
import Derived.Laws.CopyRow
import Derived.Laws.BytesString
import Derived.Calls
set_option linter.unusedSimpArgs false
set_option linter.unusedVariables false
namespace Go.VM
inductive D where
 |bool (b:Bool)
 |int (k:IntKind) (n:Int)
 |str (s:List Int)
 |nums (k:IntKind) (nil:Bool) (xs:List Int)
 |sl (sz:Nat) (nil:Bool) (xs:List (List D))
 |agg (cs:List D)
 |ifc (t:TypeId) (x:D)
 |nilifc
 |fp (cs:List D)
 |nilptr
 |nilfn
 |rt (b o:Nat)
 deriving Inhabited
inductive V where
 |any
 |skip
 |d (x:D)
 |ptr (i off:Nat)
 |mu (i off len cap sz:Nat)
 |gp (g off:Nat)
 |fn (f:FuncId) (caps:List V)
 |agg (cs:List V)
 |tup (vs:List V)
 deriving Inhabited
inductive Blk where
 |cells (fz:Bool) (cs:List V)
 |ints (fz:Bool) (k:IntKind) (xs:List Int)
 deriving Inhabited
inductive Pl where
 |t (t:Nat)
 |c (t j:Nat)
 |b (i j:Nat)
 deriving DecidableEq,Inhabited
structure St where
 tmps:List (Nat×V)
 blocks:List (Option Blk)
 owns:List Pl
 deriving Inhabited
inductive TK where
 |bool|int (k:IntKind)|str|ptr|slice (e:Nat)|struct (fs:List (Nat×Nat))|arr (n e:Nat)|iface|fn|other
 deriving Inhabited
structure TI where
 k:TK
 size:Nat
 bytes:Nat
 zero:List D
 cmp:Bool:=true
 eq:Bool:=true
 deriving Inhabited
structure Ret where
 vals:List V
 own:List Nat
 deriving Inhabited
structure Hand where
 vals:List V
 own:List Nat
 blocks:List (Option Blk)
 bown:List Pl
 deriving Inhabited
structure RegH where
 keep:Option (List Nat)
 nils:List (Nat×Option Nat)
 deriving Inhabited
structure Ctx where
 tt:Nat→Option TI
 glob:Nat→Option (List D)
 call:FuncId→List V→Option Ret
 lin:List Nat
 live:Nat→List Nat
 callP:FuncId→List V→List (Option Blk)→List Pl→Option Hand:=fun _ _ _ _=>none
 reg:Nat→RegH:=fun _=>⟨none,[]⟩
 wr:List Nat:=[]
def look (t:Nat):List (Nat×V)→Option V
 |[]=>none
 |(u,x)::l=>bif Nat.beq t u then some x else look t l
def ins (t:Nat) (v:V):List (Nat×V)→List (Nat×V)
 |[]=>[(t,v)]
 |(u,x)::l=>bif Nat.blt t u then(t,v)::(u,x)::l else bif Nat.beq t u then(t,v)::l else(u,x)::ins t v l
def Pl.ofTmp (t:Nat):Pl→Bool
 | .t u=>Nat.beq u t
 | .c u _=>Nat.beq u t
 | .b _ _=>false
def Pl.ofBlk (i:Nat):Pl→Bool
 | .b j _=>Nat.beq i j
 |_=>false
def Pl.beq:Pl→Pl→Bool
 | .t u,.t v=>Nat.beq u v
 | .c u i,.c v j=>Nat.beq u v && Nat.beq i j
 | .b u i,.b v j=>Nat.beq u v && Nat.beq i j
 |_,_=>false
def hasPl (p:Pl):List Pl→Bool
 |[]=>false
 |q::l=>bif Pl.beq p q then true else hasPl p l
def hasNat (n:Nat):List Nat→Bool
 |[]=>false
 |m::l=>bif Nat.beq n m then true else hasNat n l
def dropPl (f:Pl→Bool):List Pl→List Pl
 |[]=>[]
 |q::l=>bif f q then dropPl f l else q::dropPl f l
def St.put (st:St) (dst:Option Nat) (v:V):St:=
 match dst with
 |none=>st
 |some t=> {st with tmps:=ins t v st.tmps,owns:=dropPl (Pl.ofTmp t) st.owns}
def St.give (st:St) (p q:Pl):St:=
 bif hasPl p st.owns then {st with owns:=q::dropPl (Pl.beq p) st.owns} else st
def St.disown (st:St) (f:Pl→Bool):St:= {st with owns:=dropPl f st.owns}
def getB (st:St) (i:Nat):Option Blk:=
 match st.blocks[i]? with
 |some (some b)=>some b
 |_=>none
def St.setB (st:St) (i:Nat) (b:Blk):St:= {st with blocks:=st.blocks.set i (some b) }
def St.new (st:St) (slot:Option Nat) (b:Blk):Nat×St:=
 match slot with
 |none=>(st.blocks.length,{st with blocks:=st.blocks++[some b] })
 |some i=>(i,{st with blocks:=st.blocks.set i (some b) })
def bytesI (s:ByteArray):List Int:=s.data.toList.map fun b=>(b.toNat:Int)
def zcell:Value→D→Bool
 | .bool a,.bool b=>a==b
 | .int k n,.int k' m=>(k==k') && (n==m) && (k.wrap n==n)
 | .string s,.str []=>Nat.beq s.size 0
 | .slice none 0 0,.nums _ true []=>true
 | .slice none 0 0,.sl _ true []=>true
 | .pointer none,.nilptr=>true
 | .nilIface,.nilifc=>true
 | .nilFunc,.nilfn=>true
 |_,_=>false
def zcells:List Value→List D→Bool
 |[],[]=>true
 |v::vs,x::xs=>zcell v x && zcells vs xs
 |_,_=>false
def TI.isAgg (i:TI):Bool:=match i.k with| .struct _=>true| .arr _ _=>true|_=>false
def absT (tt:Nat→Option TI) (t:Nat):Value→Option D
 | .bool b=>some (.bool b)
 | .int k n=>bif k.wrap n==n then some (.int k n) else none
 | .string s=>bif Nat.ble s.size 1000000 then some (.str (bytesI s)) else none
 | .pointer none=>some .nilptr
 | .nilIface=>some .nilifc
 | .nilFunc=>some .nilfn
 | .slice none 0 0=>match tt t with
  |some {k:= .slice e,.. }=>match tt e with
   |some {k:= .int k,.. }=>some (.nums k true [])
   |some i=>some (.sl i.size true [])
   |none=>none
  |_=>none
 | .agg cs=>match tt t with
  |some i=>bif zcells cs.toList i.zero then some (.agg i.zero) else none
  |none=>none
 |_=>none
def evO (C:Ctx) (st:St) (t:Nat):Operand→Option V
 | .tmp u=>look u st.tmps
 | .const v=>match absT C.tt t v with
  |some x=>some (.d x)
  |none=>none
 | .global g=>some (.gp g 0)
 | .func f=>some (.fn f [])
def allD:List V→Option (List D)
 |[]=>some []
 | .d x::l=>match allD l with
  |some ds=>some (x::ds)
  |none=>none
 |_=>none
def chunk {α:Type} (sz:Nat):Nat→List α→List (List α)
 |0,_=>[]
 |n+1,l=>l.take sz::chunk sz n (l.drop sz)
def Blk.freeze:Blk→Blk
 | .cells _ cs=> .cells true cs
 | .ints _ k xs=> .ints true k xs
def St.freeze (st:St) (i:Nat):St:=
 match getB st i with
 |some b=> {st with blocks:=st.blocks.set i (some b.freeze),owns:=dropPl (Pl.ofBlk i) st.owns}
 |none=>st
def asD (C:Ctx) (st:St):V→Option (D×St)
 | .d x=>some (x,st)
 | .mu i off len _ sz=>match getB st i with
  |some (.ints _ k xs)=>bif Nat.beq sz 1 then some (.nums k false ((xs.drop off).take len),st.freeze i) else none
  |some (.cells _ cs)=>match allD ((cs.drop off).take (len*sz)) with
   |some ds=>some (.sl sz false (chunk sz len ds),st.freeze i)
   |none=>none
  |none=>none
 | .ptr i off=>match getB st i with
  |some (.cells _ cs)=>match allD (cs.drop off) with
   |some ds=>some (.fp ds,st.freeze i)
   |none=>none
  |_=>none
 | .gp g off=>match C.glob g with
  |some cs=>some (.fp (cs.drop off),st)
  |none=>none
 |_=>none
def asDs (C:Ctx) (st:St):List V→Option (List D×St)
 |[]=>some ([],st)
 |v::l=>match asD C st v with
  |some (x,st)=>match asDs C st l with
   |some (xs,st)=>some (x::xs,st)
   |none=>none
  |none=>none
def mkAgg (cs:List V):V:=
 match allD cs with
 |some ds=> .d (.agg ds)
 |none=> .agg cs
def cellsV:V→Option (List V)
 | .d (.agg cs)=>some (cs.map .d)
 | .agg cs=>some cs
 | .d x=>some [.d x]
 | .ptr i o=>some [.ptr i o]
 | .mu i o l c s=>some [.mu i o l c s]
 | .gp g o=>some [.gp g o]
 | .fn f cs=>some [.fn f cs]
 |_=>none
def splice {α:Type} (off:Nat) (new cs:List α):List α:=cs.take off++new++cs.drop (off+new.length)
def intOfV:V→Option Int
 | .d (.int _ n)=>some n
 |_=>none
end Go.VM
set_option linter.unusedSimpArgs false
set_option linter.unusedVariables false
namespace Go.VM
def eqT.part (tt:Nat→Option TI) (t off:Nat) (xs:List D):Option D:=
 match tt t with
 |some j=>bif j.isAgg then(bif Nat.ble (off+j.size) xs.length then some (.agg ((xs.drop off).take j.size)) else none) else xs[off]?
 |none=>none
def eqT.eqFs (tt:Nat→Option TI) (rec:Nat→D→D→Option Bool) (xs ys:List D):List (Nat×Nat)→Option Bool
 |[]=>some true
 |(off,t)::fs=>match eqT.part tt t off xs,eqT.part tt t off ys with
  |some x,some y=>match rec t x y with
   |some c=>bif c then eqT.eqFs tt rec xs ys fs else some false
   |none=>none
  |_,_=>none
def eqT.eqEs (tt:Nat→Option TI) (rec:Nat→D→D→Option Bool) (xs ys:List D) (e sz:Nat):Nat→Nat→Option Bool
 |0,_=>some true
 |n+1,off=>match eqT.part tt e off xs,eqT.part tt e off ys with
  |some x,some y=>match rec e x y with
   |some c=>bif c then eqT.eqEs tt rec xs ys e sz n (off+sz) else some false
   |none=>none
  |_,_=>none
def eqT (tt:Nat→Option TI):Nat→Nat→D→D→Option Bool
 |0,_,_,_=>none
 |f+1,t,a,b=>match tt t with
  |none=>none
  |some i=>match i.k,a,b with
   | .bool,.bool x,.bool y=>some (x==y)
   | .int _,.int k x,.int k' y=>bif k==k' then some (x==y) else none
   | .str,.str x,.str y=>some (x==y)
   | .iface,.nilifc,.nilifc=>some true
   | .iface,.nilifc,.ifc _ _=>some false
   | .iface,.ifc _ _,.nilifc=>some false
   | .iface,.ifc t x,.ifc u y=>bif Nat.beq t u then(match tt t with
     |some j=>bif j.cmp then eqT tt f t x y else none
     |none=>none) else some false
   | .struct fs,.agg xs,.agg ys=>eqT.eqFs tt (eqT tt f) xs ys fs
   | .arr n e,.agg xs,.agg ys=>match tt e with
    |some j=>eqT.eqEs tt (eqT tt f) xs ys e j.size n 0
    |none=>none
   |_,_,_=>none
def isNilIfc:V→Bool
 | .d .nilifc=>true
 |_=>false
def isCst:Operand→Bool
 | .const _=>true
 |_=>false
def notB (r:Option Bool):Option D:=
 match r with
 |some b=>some (.bool (!b))
 |none=>none
def yesB (r:Option Bool):Option D:=
 match r with
 |some b=>some (.bool b)
 |none=>none
def intBitsI (op:BinOp) (k:IntKind) (x y:Int):Option Int:=
 match op with
 | .and=>some (k.wrap (BitVec.ofInt k.bits x &&& BitVec.ofInt k.bits y).toNat)
 | .or=>some (k.wrap (BitVec.ofInt k.bits x|||BitVec.ofInt k.bits y).toNat)
 | .xor=>some (k.wrap (BitVec.ofInt k.bits x^^^BitVec.ofInt k.bits y).toNat)
 | .andNot=>some (k.wrap (BitVec.ofInt k.bits x &&& ~~~ BitVec.ofInt k.bits y).toNat)
 |_=>none
def evInt (op:BinOp) (k:IntKind) (x y:Int):Option D:=
 match op with
 | .add=>some (.int k (k.wrap (x+y)))
 | .sub=>some (.int k (k.wrap (x-y)))
 | .mul=>some (.int k (k.wrap (x*y)))
 | .quo=>bif y==0 then none else some (.int k (k.wrap (x.tdiv y)))
 | .rem=>bif y==0 then none else some (.int k (k.wrap (x.tmod y)))
 | .eql=>some (.bool (x==y))
 | .neq=>some (.bool (x !=y))
 | .lss=>some (.bool (decide (x<y)))
 | .leq=>some (.bool (decide (x≤y)))
 | .gtr=>some (.bool (decide (x>y)))
 | .geq=>some (.bool (decide (x≥y)))
 | .and| .or| .xor| .andNot=>match intBitsI op k x y with
  |some n=>some (.int k n)
  |none=>none
 |_=>none
def evShift (op:BinOp) (k:IntKind) (x y:Int):Option D:=
 bif decide (0≤y) then
  (match op with
  | .shl=>some (.int k (k.wrap (x*2^(min y.toNat k.bits))))
  | .shr=>some (.int k (k.wrap (x.fdiv (2^(min y.toNat k.bits)))))
  |_=>none)
 else none
def nilOf:V→Option Bool
 | .d (.nums _ n _)=>some n
 | .d (.sl _ n _)=>some n
 | .mu _ _ _ _ _=>some false
 |_=>none
def litNil:Operand→Bool
 | .const (.slice none 0 0)=>true
 |_=>false
def nilPtr:V→Option Bool
 | .d .nilptr=>some true
 | .d (.fp _)=>some false
 | .ptr _ _=>some false
 | .gp _ _=>some false
 |_=>none
def eqFuel:Nat:=60
def evEq (C:Ctx) (t:Nat) (ox oy:Operand) (x y:V):Option Bool:=
 match C.tt t with
 |none=>none
 |some i=>match i.k with
  | .bool=>match x,y with
   | .d (.bool p),.d (.bool q)=>some (p==q)
   |_,_=>none
  | .int _=>match x,y with
   | .d (.int k n),.d (.int k' m)=>bif k==k' then some (n==m) else none
   |_,_=>none
  | .str=>match x,y with
   | .d (.str p),.d (.str q)=>some (p==q)
   |_,_=>none
  | .slice _=>bif litNil oy then nilOf x else bif litNil ox then nilOf y else none
  | .ptr=>match nilPtr x,nilPtr y with
   |some true,some b=>some b
   |some false,some true=>some false
   |_,_=>none
  | .iface=>match x,y with
   | .d .nilifc,.d .nilifc=>bif isCst ox||isCst oy then some true else none
   | .d .nilifc,.d (.ifc _ _)=>some false
   | .d (.ifc _ _),.d .nilifc=>some false
   | .d (.ifc s p),.d (.ifc u q)=>eqT C.tt eqFuel t (.ifc s p) (.ifc u q)
   |_,_=>none
  | .struct _=>match x,y with
   | .d (.agg p),.d (.agg q)=>bif i.eq then eqT C.tt eqFuel t (.agg p) (.agg q) else none
   |_,_=>none
  | .arr _ _=>match x,y with
   | .d (.agg p),.d (.agg q)=>bif i.eq then eqT C.tt eqFuel t (.agg p) (.agg q) else none
   |_,_=>none
  |_=>none
def maxStr:Nat:=140737488355328
def evBin (C:Ctx) (op:BinOp) (t:Nat) (ox oy:Operand) (x y:V):Option D:=
 match x,y with
 | .d (.int k a),.d (.int k' b)=>match op with
  | .shl=>evShift .shl k a b
  | .shr=>evShift .shr k a b
  |_=>bif k==k' then evInt op k a b else none
 | .d (.str a),.d (.str b)=>match op with
  | .eql=>some (.bool (a==b))
  | .neq=>some (.bool (!(a==b)))
  | .add=>bif decide (a.length+b.length≤maxStr) then some (.str (a++b)) else none
  |_=>none
 |_,_=>match op with
  | .eql=>yesB (evEq C t ox oy x y)
  | .neq=>notB (evEq C t ox oy x y)
  |_=>none
def evUn (op:UnOp) (x:V):Option D:=
 match op,x with
 | .not,.d (.bool b)=>some (.bool (!b))
 | .neg,.d (.int k n)=>some (.int k (k.wrap (0-n)))
 | .xor,.d (.int k n)=>match intBitsI .xor k (if k.signed then-1 else k.max) n with
  |some m=>some (.int k m)
  |none=>none
 |_,_=>none
def headD (i:TI) (cs:List D):Option V:=
 bif i.isAgg then(bif Nat.ble i.size cs.length then some (.d (.agg (cs.take i.size))) else none)
 else match cs with
  |x::_=>some (.d x)
  |[]=>none
def headV (i:TI) (cs:List V):Option V:=
 bif i.isAgg then(bif Nat.ble i.size cs.length then some (mkAgg (cs.take i.size)) else none)
 else match cs with
  |x::_=>some x
  |[]=>none
def headI (i:TI) (k:IntKind) (xs:List Int):Option V:=
 bif i.isAgg then(bif Nat.ble i.size xs.length then some (.d (.agg ((xs.take i.size).map (.int k)))) else none)
 else match xs with
  |x::_=>some (.d (.int k x))
  |[]=>none
def evLoad (C:Ctx) (st:St) (t:Nat) (p:V):Option V:=
 match C.tt t with
 |none=>none
 |some i=>match p with
  | .ptr b off=>match getB st b with
   |some (.cells _ cs)=>headV i (cs.drop off)
   |some (.ints _ k xs)=>headI i k (xs.drop off)
   |none=>none
  | .d (.fp cs)=>headD i cs
  | .gp g off=>match C.glob g with
   |some cs=>headD i (cs.drop off)
   |none=>none
  |_=>none
def allI (k:IntKind):List V→Option (List Int)
 |[]=>some []
 | .d (.int k' n)::l=>bif k==k' then(match allI k l with
  |some ns=>some (n::ns)
  |none=>none) else none
 |_=>none
def evStore (C:Ctx) (st:St) (t:Nat) (p v:V):Option St:=
 match C.tt t,p,cellsV v with
 |some i,.ptr b off,some new=>bif Nat.beq new.length i.size then
   (match getB st b with
   |some (.cells false cs)=>bif Nat.ble (off+new.length) cs.length then
     some { (st.setB b (.cells false (splice off new cs))) with
      owns:=dropPl (fun| .b j o=>Nat.beq b j && Nat.ble off o && Nat.blt o (off+new.length)|_=>false) st.owns} else none
   |some (.ints false k xs)=>match allI k new with
    |some ns=>bif Nat.ble (off+ns.length) xs.length then some (st.setB b (.ints false k (splice off ns xs))) else none
    |none=>none
   |_=>none) else none
 |_,_,_=>none
def evFieldAddr (C:Ctx) (s f:Nat) (p:V):Option V:=
 match C.tt s with
 |some {k:= .struct fs,.. }=>match fs[f]? with
  |some (o,ft)=>match C.tt ft with
   |some j=>bif Nat.blt 0 j.size then(match p with
     | .ptr b off=>some (.ptr b (off+o))
     | .d (.fp cs)=>some (.d (.fp (cs.drop o)))
     | .gp g off=>some (.gp g (off+o))
     |_=>none) else none
   |none=>none
  |none=>none
 |_=>none
def evField (C:Ctx) (s f:Nat) (v:V):Option V:=
 match C.tt s with
 |some {k:= .struct fs,.. }=>match fs[f]? with
  |some (o,ft)=>match C.tt ft with
   |some j=>match v with
    | .d (.agg cs)=>headD j (cs.drop o)
    | .agg cs=>headV j (cs.drop o)
    |_=>none
   |none=>none
  |none=>none
 |_=>none
def evIndexAddr (C:Ctx) (t:Nat) (p:V) (ix:Int):Option V:=
 bif decide (0≤ix) then
  (match C.tt t with
  |some {k:= .arr n e,.. }=>match C.tt e with
   |some j=>bif decide (ix<(n:Int)) then(match p with
     | .ptr b off=>some (.ptr b (off+ix.toNat*j.size))
     | .d (.fp cs)=>some (.d (.fp (cs.drop (ix.toNat*j.size))))
     | .gp g off=>some (.gp g (off+ix.toNat*j.size))
     |_=>none) else none
   |none=>none
  |some {k:= .slice e,.. }=>match C.tt e with
   |some j=>match p with
    | .d (.nums k _ xs)=>bif Nat.beq j.size 1 then(match xs[ix.toNat]? with
     |some x=>some (.d (.fp [.int k x]))
     |none=>none) else none
    | .d (.sl sz _ xs)=>bif Nat.beq j.size sz then(match xs[ix.toNat]? with
     |some c=>some (.d (.fp c))
     |none=>none) else none
    | .mu b off len _ sz=>bif Nat.beq j.size sz && decide (ix<(len:Int)) then some (.ptr b (off+ix.toNat*sz)) else none
    |_=>none
   |none=>none
  |_=>none)
 else none
def evIndex (C:Ctx) (t:Nat) (v:V) (ix:Int):Option V:=
 bif decide (0≤ix) then
  (match C.tt t with
  |some {k:= .arr n e,.. }=>match C.tt e with
   |some j=>bif decide (ix<(n:Int)) then(match v with
     | .d (.agg cs)=>headD j (cs.drop (ix.toNat*j.size))
     | .agg cs=>headV j (cs.drop (ix.toNat*j.size))
     |_=>none) else none
   |none=>none
  |some {k:= .str,.. }=>match v with
   | .d (.str s)=>match s[ix.toNat]? with
    |some c=>some (.d (.int .u8 c))
    |none=>none
   |_=>none
  |_=>none)
 else none
def fillV:List V→List (Nat×Nat×V)→Option (List V)
 |cs,[]=>some cs
 |cs,(off,sz,v)::l=>match cellsV v with
  |some new=>bif Nat.beq new.length sz && Nat.ble (off+sz) cs.length then fillV (splice off new cs) l else none
  |none=>none
def partsAt (C:Ctx) (st:St) (place:Nat→Option (Nat×Nat)):List (Nat×Operand)→Option (List (Nat×Nat×V))
 |[]=>some []
 |(i,x)::l=>match place i with
  |some (off,ft)=>match C.tt ft,evO C st ft x with
   |some j,some v=>match partsAt C st place l with
    |some r=>some ((off,j.size,v)::r)
    |none=>none
   |_,_=>none
  |none=>none
def evBuild (C:Ctx) (st:St) (t:Nat) (parts:List (Nat×Operand)):Option V:=
 match C.tt t with
 |some i=>match i.k with
  | .struct fs=>match partsAt C st (fun j=>fs[j]?) parts with
   |some ps=>match fillV (i.zero.map .d) ps with
    |some cs=>some (mkAgg cs)
    |none=>none
   |none=>none
  | .arr _ e=>match C.tt e with
   |some j=>match partsAt C st (fun n=>some (n*j.size,e)) parts with
    |some ps=>match fillV (i.zero.map .d) ps with
     |some cs=>some (mkAgg cs)
     |none=>none
    |none=>none
   |none=>none
  |_=>none
 |none=>none
def rep {α:Type} (n:Nat) (l:List α):List α:=
 match n with
 |0=>[]
 |m+1=>l++rep m l
def litCells (C:Ctx) (st:St) (t n:Nat) (parts:List (Nat×Operand)):Option (List V×TI):=
 match C.tt t with
 |some {k:= .slice e,.. }=>match C.tt e with
  |some j=>bif Nat.ble (n*j.size) 16777216 && Nat.blt 0 j.size then(match partsAt C st (fun i=>some (i*j.size,e)) parts with
   |some ps=>match fillV (rep n (j.zero.map .d)) ps with
    |some cs=>some (cs,j)
    |none=>none
   |none=>none) else none
  |none=>none
 |_=>none
def bitOf (C:Ctx) (st:St) (t:Nat) (x:Operand):Option Bool:=
 match evO C st t x with
 |some (.d (.bool b))=>some b
 |_=>none
def room:Nat:=140737488355328
def evMake (C:Ctx) (st:St) (slot:Option Nat) (t:Nat) (n:Int):Option (V×St):=
 match C.tt t with
 |some {k:= .slice e,.. }=>match C.tt e with
  |some j=>bif decide (0≤n) && decide (n≤9223372036854775807) && decide ((j.bytes:Int)*n≤281474976710656) && Nat.blt 0 j.size then
    (match j.k with
    | .int k=>let r:=st.new slot (.ints false k (List.replicate n.toNat 0));some (.mu r.1 0 n.toNat n.toNat 1,r.2)
    |_=>let r:=st.new slot (.cells false (rep n.toNat (j.zero.map .d)));some (.mu r.1 0 n.toNat n.toNat j.size,r.2)) else none
  |none=>none
 |_=>none
def bnd (C:Ctx) (st:St) (x:Option Operand) (dflt:Int):Option Int:=
 match x with
 |none=>some dflt
 |some o=>match evO C st 0 o with
  |some (.d (.int _ n))=>some n
  |_=>none
def blkLen:Option Blk→Nat
 |some (.cells _ cs)=>cs.length
 |some (.ints _ _ xs)=>xs.length
 |none=>0
def evSlice (C:Ctx) (st:St) (t:Nat) (x:V) (lo:Int) (hi mx:Option Int):Option (V×Bool):=
 match x with
 | .d (.str s)=>match C.tt t,mx with
  |some {k:= .str,.. },none=>
   let h:=hi.getD s.length
   bif decide (0≤lo) && decide (lo≤h) && decide (h≤s.length) then some (.d (.str ((s.take h.toNat).drop lo.toNat)),false) else none
  |_,_=>none
 | .d (.nums k nl xs)=>match C.tt t with
  |some {k:= .slice e,.. }=>match C.tt e with
   |some j=>
    let h:=hi.getD xs.length
    let m:=mx.getD xs.length
    bif Nat.beq j.size 1 && decide (0≤lo) && decide (lo≤h) && decide (h≤m) && decide (m≤xs.length) then
     some (.d (.nums k nl ((xs.take h.toNat).drop lo.toNat)),mx.isSome && (h==m)) else none
   |none=>none
  |_=>none
 | .d (.sl sz nl xs)=>match C.tt t with
  |some {k:= .slice e,.. }=>match C.tt e with
   |some j=>
    let h:=hi.getD xs.length
    let m:=mx.getD xs.length
    bif Nat.beq j.size sz && decide (0≤lo) && decide (lo≤h) && decide (h≤m) && decide (m≤xs.length) then
     some (.d (.sl sz nl ((xs.take h.toNat).drop lo.toNat)),mx.isSome && (h==m)) else none
   |none=>none
  |_=>none
 | .mu b off len cap sz=>match C.tt t with
  |some {k:= .slice e,.. }=>match C.tt e,mx with
   |some j,none=>
    let h:=hi.getD len
    bif Nat.beq j.size sz && decide (0≤lo) && decide (lo≤h) && decide (h≤cap) then
     some (.mu b (off+lo.toNat*sz) (h.toNat-lo.toNat) (cap-lo.toNat) sz,false) else none
   |_,_=>none
  |_=>none
 | .ptr b off=>match C.tt t with
  |some {k:= .arr n e,.. }=>match C.tt e,mx with
   |some j,none=>
    let h:=hi.getD n
    bif Nat.blt 0 j.size && decide (0≤lo) && decide (lo≤h) && decide (h≤n) && Nat.ble (off+n*j.size) (blkLen (getB st b)) && Nat.ble n 1000000 then
     some (.mu b (off+lo.toNat*j.size) (h.toNat-lo.toNat) (n-lo.toNat) j.size,false) else none
   |_,_=>none
  |_=>none
 |_=>none
def evConv (C:Ctx) (st:St) (s d:Nat) (x:V):Option (V×Bool):=
 match C.tt s,C.tt d with
 |some i,some j=>match j.k,x with
  | .int k,.d (.int _ n)=>some (.d (.int k (k.wrap n)),false)
  | .str,.d (.str l)=>some (.d (.str l),false)
  | .str,.d (.nums .u8 _ xs)=>match i.k with
   | .slice e=>match C.tt e with
    |some {k:= .int .u8,.. }=>some (.d (.str xs),false)
    |_=>none
   |_=>none
  | .str,.mu b off len _ sz=>match i.k with
   | .slice e=>match C.tt e,getB st b with
    |some {k:= .int .u8,.. },some (.ints _ .u8 xs)=>bif Nat.beq sz 1 then some (.d (.str ((xs.drop off).take len)),false) else none
    |_,_=>none
   |_=>none
  | .slice e,.d (.str l)=>match C.tt e with
   |some {k:= .int .u8,.. }=>some (.d (.nums .u8 false l),false)
   |_=>none
  |_,_=>none
 |_,_=>none
def lenV (C:Ctx) (t:Nat) (x:V):Option Nat:=
 match C.tt t with
 |none=>none
 |some i=>match i.k,x with
  | .str,.d (.str s)=>some s.length
  | .slice _,.d (.nums _ _ xs)=>some xs.length
  | .slice _,.d (.sl _ _ xs)=>some xs.length
  | .slice _,.mu _ _ len _ _=>some len
  | .arr n _,_=>bif Nat.ble n 1000000 then some n else none
  |_,_=>none
def srcNums (st:St) (k:IntKind):V→Option (List Int)
 | .d (.nums k' _ xs)=>bif k==k' then some xs else none
 | .d (.str l)=>bif k== .u8 then some l else none
 | .mu b off len _ sz=>match getB st b with
  |some (.ints _ k' xs)=>bif k==k' && Nat.beq sz 1 then some ((xs.drop off).take len) else none
  |_=>none
 |_=>none
def srcSl (st:St) (sz:Nat):V→Option (List (List D))
 | .d (.sl sz' _ xs)=>bif Nat.beq sz sz' then some xs else none
 | .mu b off len _ sz' =>match getB st b with
  |some (.cells _ cs)=>bif Nat.beq sz sz' then(match allD ((cs.drop off).take (len*sz)) with
   |some ds=>some (chunk sz len ds)
   |none=>none) else none
  |_=>none
 |_=>none
def evAppend (C:Ctx) (st:St) (t:Nat) (own:Bool) (b x:V):Option D:=
 match C.tt t with
 |some {k:= .slice e,.. }=>match C.tt e with
  |some j=>match b with
   | .d (.nums k nl xs)=>bif (own||nl) && Nat.beq j.size 1 then(match srcNums st k x with
    |some ys=>bif decide ((xs.length+ys.length)*j.bytes≤room) && decide (xs.length+ys.length≤room) then some (.nums k (nl && ys.isEmpty) (xs++ys)) else none
    |none=>none) else none
   | .d (.sl sz nl xs)=>bif (own||nl) && Nat.beq j.size sz && Nat.blt 0 sz then(match srcSl st sz x with
    |some ys=>bif decide ((xs.length+ys.length)*j.bytes≤room) && decide (xs.length+ys.length≤room) then some (.sl sz (nl && ys.isEmpty) (xs++ys)) else none
    |none=>none) else none
   |_=>none
  |none=>none
 |_=>none
def minI (a b:Int):Int:=bif decide (b<a) then b else a
def maxI (a b:Int):Int:=bif decide (b>a) then b else a
end Go.VM
set_option linter.unusedSimpArgs false
set_option linter.unusedVariables false
namespace Go.VM
mutual
def refs:V→List Nat
 | .ptr i _=>[i]
 | .mu i _ _ _ _=>[i]
 | .fn _ cs=>refsL cs
 | .agg cs=>refsL cs
 | .tup cs=>refsL cs
 |_=>[]
def refsL:List V→List Nat
 |[]=>[]
 |v::l=>refs v++refsL l
end
def isSl:V→Bool
 | .d (.nums _ _ _)=>true
 | .d (.sl _ _ _)=>true
 |_=>false
def isTup:V→Bool
 | .tup _=>true
 |_=>false
def St.pass (st:St) (x:Operand) (dst:Option Nat) (yes:Bool):St:=
 match yes,x,dst with
 |true,.tmp s,some d=>st.give (.t s) (.t d)
 |_,_,_=>st
def giveC (s d:Nat):List Pl→List Pl
 |[]=>[]
 | .c u j::l=>(match Nat.beq u s with|true=> .c d j|false=> .c u j)::giveC s d l
 |p::l=>p::giveC s d l
def St.passTup (st:St) (x:Operand) (dst:Option Nat):St:=
 match x,dst with
 | .tmp s,some d=> {st with owns:=giveC s d st.owns}
 |_,_=>st
def inLin (C:Ctx) (dst:Option Nat):Bool:=
 match dst with
 |some d=>hasNat d C.lin
 |none=>false
def St.own (st:St) (dst:Option Nat) (yes:Bool):St:=
 match yes,dst with
 |true,some d=> {st with owns:= .t d::st.owns}
 |_,_=>st
def argV (C:Ctx) (st:St) (v:V):Option (V×St):=
 match v with
 | .gp g o=>some (.gp g o,st)
 | .fn f cs=>match refsL cs with
  |[]=>some (.fn f cs,st)
  |_=>none
 | .agg cs=>match refsL cs with
  |[]=>some (.agg cs,st)
  |_=>none
 |v=>match asD C st v with
  |some (x,st)=>some (.d x,st)
  |none=>none
def evArgs (C:Ctx):St→List Operand→List Nat→Option (List V×St)
 |st,[],_=>some ([],st)
 |st,x::xs,ts=>match evO C st (ts.headD 0) x with
  |some v=>match argV C st v with
   |some (v,st)=>match evArgs C st xs ts.tail with
    |some (vs,st)=>some (v::vs,st)
    |none=>none
   |none=>none
  |none=>none
def ownC (d:Nat):List Nat→List Pl
 |[]=>[]
 |j::l=> .c d j::ownC d l
def St.putRet (st:St) (dst:Option Nat) (r:Ret):St:=
 match r.vals with
 |[v]=>(st.put dst v).own dst (hasNat 0 r.own)
 |vs=>let st:=st.put dst (.tup vs)
  match dst with
  |some d=> {st with owns:=ownC d r.own++st.owns}
  |none=>st
def callWith (C:Ctx) (st:St) (g:FuncId) (args:List V) (dst:Option Nat):Option St:=
 match refsL args with
 |[]=>match C.call g args with
  |some r=>match refsL r.vals with
   |[]=>some (st.putRet dst r)
   |_=>none
  |none=>none
 |_=>none
def hasRef (cs:List V):Bool:=
 match refsL cs with
 |[]=>false
 |_=>true
def isRefV:V→Bool
 | .ptr _ _=>true
 | .fn _ cs=>hasRef cs
 | .agg cs=>hasRef cs
 |_=>false
def anyRef (st:St):List Operand→Bool
 |[]=>false
 | .tmp t::xs=>match look t st.tmps with
  |some v=>bif isRefV v then true else anyRef st xs
  |none=>anyRef st xs
 |_::xs=>anyRef st xs
def rawHint (C:Ctx) (dst:Option Nat):Bool:=
 match dst with
 |some d=>hasNat (d+1000000) C.lin
 |none=>false
def byPtr (C:Ctx) (st:St) (args:List Operand) (caps:List V) (dst:Option Nat):Bool:=
 bif anyRef st args then true else bif hasRef caps then true else rawHint C dst
def argP (C:Ctx) (raw:Bool) (st:St) (v:V):Option (V×St):=
 match v with
 | .ptr i o=>some (.ptr i o,st)
 | .agg cs=>some (.agg cs,st)
 | .fn f cs=>some (.fn f cs,st)
 | .mu i o l c s=>match raw with
  |true=>some (.mu i o l c s,st)
  |false=>argV C st (.mu i o l c s)
 |v=>argV C st v
def evArgsP (C:Ctx) (raw:Bool):St→List Operand→List Nat→Option (List V×St)
 |st,[],_=>some ([],st)
 |st,x::xs,ts=>match evO C st (ts.headD 0) x with
  |some v=>match argP C raw st v with
   |some (v,st)=>match evArgsP C raw st xs ts.tail with
    |some (vs,st)=>some (v::vs,st)
    |none=>none
   |none=>none
  |none=>none
def newOf (seen:List Nat):List Nat→List Nat
 |[]=>[]
 |i::l=>bif hasNat i seen then newOf seen l else i::newOf (i::seen) l
def getO (bs:List (Option Blk)) (i:Nat):Option Blk:=
 match bs[i]? with
 |some b=>b
 |none=>none
def refsB:Option Blk→List Nat
 |some (.cells _ cs)=>refsL cs
 |_=>[]
def reach (bs:List (Option Blk)):List (Option Blk)→List Nat→List Nat→List Nat
 |_::k,i::todo,seen=>reach bs k (todo++newOf seen (refsB (getO bs i))) (seen++newOf seen (refsB (getO bs i)))
 |_,_,seen=>seen
def idxOf:List Nat→Nat→Option Nat
 |[],_=>none
 |i::l,j=>bif Nat.beq i j then some 0 else(match idxOf l j with
  |some k=>some (k+1)
  |none=>none)
mutual
def renV (ρ:Nat→Option Nat):V→Option V
 | .ptr i o=>match ρ i with
  |some j=>some (.ptr j o)
  |none=>none
 | .mu i o l c s=>match ρ i with
  |some j=>some (.mu j o l c s)
  |none=>none
 | .fn f cs=>match renL ρ cs with
  |some us=>some (.fn f us)
  |none=>none
 | .agg cs=>match renL ρ cs with
  |some us=>some (.agg us)
  |none=>none
 | .tup cs=>match renL ρ cs with
  |some us=>some (.tup us)
  |none=>none
 | .d x=>some (.d x)
 | .any=>some .any
 | .skip=>some .skip
 | .gp g o=>some (.gp g o)
def renL (ρ:Nat→Option Nat):List V→Option (List V)
 |[]=>some []
 |v::l=>match renV ρ v with
  |some u=>match renL ρ l with
   |some us=>some (u::us)
   |none=>none
  |none=>none
end
def renB (ρ:Nat→Option Nat):Option Blk→Option (Option Blk)
 |some (.cells fz cs)=>match renL ρ cs with
  |some us=>some (some (.cells fz us))
  |none=>none
 |some (.ints fz k xs)=>some (some (.ints fz k xs))
 |none=>none
def renBs (ρ:Nat→Option Nat):List (Option Blk)→Option (List (Option Blk))
 |[]=>some []
 |b::l=>match renB ρ b with
  |some c=>match renBs ρ l with
   |some cs=>some (c::cs)
   |none=>none
  |none=>none
def renPl (ρ:Nat→Option Nat):List Pl→List Pl
 |[]=>[]
 | .b i j::l=>match ρ i with
  |some k=> .b k j::renPl ρ l
  |none=>renPl ρ l
 |_::l=>renPl ρ l
def nodupB:List Nat→Bool
 |[]=>true
 |i::l=>bif hasNat i l then false else nodupB l
def outN (idx:List Nat) (n k:Nat):Nat:=
 match idx[k]? with
 |some i=>i
 |none=>n+(k-idx.length)
def outIx (idx:List Nat) (n k:Nat):Option Nat:=some (outN idx n k)
def allSome:List (Option Blk)→Bool
 |[]=>true
 |some _::l=>allSome l
 |none::_=>false
def setBs:List Nat→List (Option Blk)→List (Option Blk)→List (Option Blk)
 |i::l,b::bs,all=>setBs l bs (all.set i b)
 |_,_,all=>all
def getOs (bs:List (Option Blk)):List Nat→List (Option Blk)
 |[]=>[]
 |i::l=>getO bs i::getOs bs l
def Pl.inBlks (idx:List Nat):Pl→Bool
 | .b i _=>hasNat i idx
 |_=>false
def handed (st:St) (args:List V):List Nat:=reach st.blocks st.blocks (newOf [] (refsL args)) (newOf [] (refsL args))
def headOk:List Nat→List (Option Blk)→Bool
 |[],_=>true
 |_::l,some _::bs=>headOk l bs
 |_::_,_=>false
def dropL:List Nat→List (Option Blk)→List (Option Blk)
 |_::l,_::bs=>dropL l bs
 |[],bs=>bs
 |_::_,[]=>[]
def isNilD:V→Bool
 | .d (.nums _ true _)=>true
 | .d (.sl _ true _)=>true
 |_=>false
def roomOf (st:St) (x:Operand) (v:V):Option (Option Nat):=
 bif isNilD v then some none else match x with
  | .tmp s=>match look s st.tmps with
   |some (.d y)=>bif isSl (.d y) then(bif hasPl (.t s) st.owns then some (some s) else none) else none
   |_=>none
  |_=>none
def rooms (st:St):Nat→List Operand→List V→List (Option Nat×Nat)
 |j,x::xs,v::vs=>match roomOf st x v with
  |some r=>(r,j)::rooms st (j+1) xs vs
  |none=>rooms st (j+1) xs vs
 |_,_,_=>[]
def findS (s:Nat):List (Option Nat×Nat)→Option Nat
 |[]=>none
 |(some u,j)::l=>bif Nat.beq s u then some j else findS s l
 |(none,_)::l=>findS s l
def roomsOk (rs:List (Option Nat×Nat)):List (Option Nat×Nat)→Bool
 |[]=>true
 |(some s,j)::l=>match findS s rs with
  |some k=>bif Nat.beq k j then roomsOk rs l else false
  |none=>false
 |(none,_)::l=>roomsOk rs l
def roomPl:List (Option Nat×Nat)→List Pl
 |[]=>[]
 |(_,j)::l=> .t j::roomPl l
def goneB (idx:List Nat) (rs:List (Option Nat×Nat)):Pl→Bool
 | .b i _=>hasNat i idx
 | .t s=>match findS s rs with
  |some _=>true
  |none=>false
 | .c _ _=>false
def takeBack (idx:List Nat) (rs:List (Option Nat×Nat)) (st:St) (dst:Option Nat) (h:Hand):Option St:=
 match renL (outIx idx st.blocks.length) h.vals,renBs (outIx idx st.blocks.length) h.blocks,headOk idx h.blocks with
 |some vs,some bs,true=>some (St.putRet {tmps:=st.tmps,blocks:=setBs idx bs st.blocks++dropL idx bs,owns:=renPl (outIx idx st.blocks.length) h.bown++dropPl (goneB idx rs) st.owns} dst ⟨vs,h.own⟩)
 |_,_,_=>none
def handOn (C:Ctx) (idx:List Nat) (rs:List (Option Nat×Nat)) (st:St) (g:FuncId) (args:List V) (dst:Option Nat):Option St:=
 match renL (idxOf idx) args,renBs (idxOf idx) (getOs st.blocks idx),bif nodupB idx then(bif allSome (getOs st.blocks idx) then roomsOk rs rs else false) else false with
 |some xs,some bs,true=>match C.callP g xs bs (renPl (idxOf idx) st.owns++roomPl rs) with
  |some h=>takeBack idx rs st dst h
  |none=>none
 |_,_,_=>none
def handOver (C:Ctx) (rs:List (Option Nat×Nat)) (st:St) (g:FuncId) (args:List V) (dst:Option Nat):Option St:=
 handOn C (handed st args) rs st g args dst
def roomsIf (raw:Bool) (st:St) (xs:List Operand) (vs:List V):List (Option Nat×Nat):=
 match raw with
 |true=>rooms st 0 xs vs
 |false=>[]
def isTmp:Operand→Bool
 | .tmp _=>true
 |_=>false
def plOf:Operand→Pl
 | .tmp i=> .t i
 |_=> .t 0
def isSrc (C:Ctx) (u:Nat):Bool:=
 match C.tt u with
 |some {k:= .slice _,.. }=>true
 |some {k:= .str,.. }=>true
 |_=>false
def baseD (C:Ctx) (st:St) (x:Operand):V→Option (Bool×V×St)
 | .mu i off len cap sz=>match Nat.beq len cap with
  |true=>match asD C st (.mu i off len cap sz) with
   |some (d,st)=>some (true,.d d,st)
   |none=>none
  |false=>none
 |v=>some (isTmp x && hasPl (plOf x) st.owns,v,st)
def isRow1 (C:Ctx) (t:Nat):Bool:=
 match C.tt t with
 |some {k:= .slice e,.. }=>match C.tt e with
  |some j=>Nat.beq j.size 1
  |none=>false
 |_=>false
def isRowK (C:Ctx) (t:Nat) (k:IntKind):Bool:=
 match C.tt t with
 |some {k:= .slice e,.. }=>match C.tt e with
  |some {k:= .int k',.. }=>k==k'
  |_=>false
 |_=>false
def isMuO (st:St):Operand→Bool
 | .tmp t=>match look t st.tmps with
  |some (.mu _ _ _ _ _)=>true
  |_=>false
 |_=>false
def evBuiltin (C:Ctx) (st:St) (dst:Option Nat) (b:Builtin) (args:List Operand) (ts:List Nat):Option St:=
 match b,args,ts with
 | .len,[x],[t]=>match evO C st t x with
  |some v=>match lenV C t v with
   |some n=>some (st.put dst (.d (.int .i64 n)))
   |none=>none
  |none=>none
 | .min,[x,y],_=>match evO C st 0 x,evO C st 0 y with
  |some (.d (.int k a)),some (.d (.int k' c))=>match k==k' with
   |true=>some (st.put dst (.d (.int k (minI a c))))
   |false=>none
  |_,_=>none
 | .max,[x,y],_=>match evO C st 0 x,evO C st 0 y with
  |some (.d (.int k a)),some (.d (.int k' c))=>match k==k' with
   |true=>some (st.put dst (.d (.int k (maxI a c))))
   |false=>none
  |_,_=>none
 | .append,[x,y],[t,u]=>match evO C st t x,evO C st u y with
  |some v,some s=>match isSrc C u with
   |false=>none
   |true=>match baseD C st x v with
    |some (ow,v,st)=>match evAppend C st t ow v s with
     |some r=>some (((st.disown (Pl.beq (plOf x))).put dst (.d r)).own dst true)
     |none=>none
    |none=>none
  |_,_=>none
 | .copy,[x,y],[t,u]=>match evO C st t x,evO C st u y with
  |some (.mu i off len cap sz),some s=>match isSrc C u,isRow1 C t with
   |true,true=>match getB st i with
    |some (.ints false k xs)=>match srcNums st k s with
     |some ys=>bif Nat.ble (off+(ys.take len).length) xs.length && Nat.beq sz 1 then
       some ((st.setB i (.ints false k (splice off (ys.take len) xs))).put dst (.d (.int .i64 (ys.take len).length))) else none
     |none=>none
    |_=>none
   |_,_=>none
  |_,_=>none
 | .clear,[x],[t]=>match evO C st t x with
  |some (.mu i off len cap sz)=>match isRow1 C t with
   |true=>match getB st i with
    |some (.ints false k xs)=>bif Nat.ble (off+len) xs.length && Nat.beq sz 1 && isRowK C t k then
      some ((st.setB i (.ints false k (splice off (List.replicate len 0) xs))).put dst (.tup [])) else none
    |_=>none
   |false=>none
  |_=>none
 |_,_,_=>none
def calleeOf (st:St):Operand→Option (FuncId×List V)
 | .func g=>some (g,[])
 | .tmp t=>match look t st.tmps with
  |some (.fn g cs)=>some (g,cs)
  |_=>none
 |_=>none
def evCaps (C:Ctx) (st:St):List Operand→Option (List V)
 |[]=>some []
 |x::xs=>match evO C st 0 x with
  |some (.d y)=>match evCaps C st xs with
   |some vs=>some (.d y::vs)
   |none=>none
  |some (.ptr i o)=>match evCaps C st xs with
   |some vs=>some (.ptr i o::vs)
   |none=>none
  |some (.fn f cs)=>match evCaps C st xs with
   |some vs=>some (.fn f cs::vs)
   |none=>none
  |_=>none
def evArrayAt (C:Ctx) (t:Nat) (v:V):Option V:=
 match C.tt t with
 |some {k:= .arr n _,.. }=>bif Nat.blt 0 n then(match v with
  | .mu i off len _ _=>bif Nat.ble n len then some (.ptr i off) else none
  | .d (.nums k false xs)=>bif Nat.ble n xs.length then some (.d (.fp (xs.map (.int k)))) else none
  |_=>none) else none
 |_=>none
def evOp (C:Ctx) (slot:Option Nat) (o:Oper) (st:St):Option St:=
 match o.op with
 | .move x=>match evO C st o.type x with
  |some v=>match isTup v with
   |true=>some ((st.put o.dst v).passTup x o.dst)
   |false=>some ((st.put o.dst v).pass x o.dst (inLin C o.dst))
  |none=>none
 | .assign x=>match evO C st o.type x with
  |some v=>some ((st.put o.dst v).pass x o.dst true)
  |none=>none
 | .pick c a b=>match evO C st 0 c with
  |some (.d (.bool c))=>match evO C st o.type (match c with|true=>a|false=>b) with
   |some v=>some (st.put o.dst v)
   |none=>none
  |_=>none
 | .alloc e=>match C.tt e with
  |some i=>let r:=st.new slot (.cells false (i.zero.map .d));some (r.2.put o.dst (.ptr r.1 0))
  |none=>none
 | .box e x=>match evO C st e x with
  |some v=>match cellsV v with
   |some cs=>let r:=st.new slot (.cells false cs);some (r.2.put o.dst (.ptr r.1 0))
   |none=>none
  |none=>none
 | .build t ps=>match evBuild C st t ps.toList with
  |some v=>some (st.put o.dst v)
  |none=>none
 | .buildSlice t n ps=>match litCells C st t n ps.toList with
  |some (cs,j)=>match j.k,allI (match j.k with| .int k=>k|_=> .i64) cs,allD cs with
   | .int k,some ns,_=>some ((st.put o.dst (.d (.nums k false ns))).own o.dst true)
   | .int _,none,_=>none
   |_,_,some ds=>some ((st.put o.dst (.d (.sl j.size false (chunk j.size n ds)))).own o.dst true)
   |_,_,none=>let r:=st.new slot (.cells false cs);some (r.2.put o.dst (.mu r.1 0 n n j.size))
  |none=>none
 | .load t x=>match evO C st 0 x with
  |some p=>match evLoad C st t p with
   |some v=>match p,o.dst,inLin C o.dst && isSl v with
    | .ptr b off,some d,true=>some ((st.put o.dst v).give (.b b off) (.t d))
    |_,_,_=>some (st.put o.dst v)
   |none=>none
  |none=>none
 | .store t x y=>match evO C st 0 x,evO C st t y with
  |some p,some v=>match evStore C st t p v with
   |some st=>match p,y,isSl v with
    | .ptr b off,.tmp s,true=>some ((st.give (.t s) (.b b off)).put o.dst .skip)
    |_,_,_=>some (st.put o.dst .skip)
   |none=>none
  |_,_=>none
 | .nilCheck x=>match evO C st 0 x with
  |some (.fn f cs)=>some (st.put o.dst (.fn f cs))
  |some v=>match nilPtr v with
   |some false=>some (st.put o.dst v)
   |_=>none
  |none=>none
 | .binOp op t x y _=>match evO C st t x,evO C st t y with
  |some a,some b=>match evBin C op t x y a b with
   |some r=>some (st.put o.dst (.d r))
   |none=>none
  |_,_=>none
 | .unOp op t x=>match evO C st t x with
  |some a=>match evUn op a with
   |some r=>some (st.put o.dst (.d r))
   |none=>none
  |none=>none
 | .convert s d x=>match evO C st s x with
  |some a=>match evConv C st s d a with
   |some (v,own)=>some ((st.put o.dst v).own o.dst own)
   |none=>none
  |none=>none
 | .makeInterface t x=>match evO C st t x with
  |some a=>match asD C st a,C.tt t with
   |some (d,st),some i=>match i.k with
    | .iface=>none
    |_=>some (st.put o.dst (.d (.ifc t d)))
   |_,_=>none
  |none=>none
 | .makeFunc (.func f) first caps=>match first.size,evCaps C st caps.toList with
  |0,some cs=>some (st.put o.dst (.fn f cs))
  |_,_=>none
 | .makeSlice t l c=>match evO C st 0 l,evO C st 0 c with
  |some (.d (.int _ n)),some (.d (.int _ m))=>match n==m with
   |true=>match evMake C st slot t n with
    |some (v,st)=>some (st.put o.dst v)
    |none=>none
   |false=>none
  |_,_=>none
 | .slice t x lo hi mx=>match evO C st t x,bnd C st lo 0 with
  |some v,some l=>match hi,mx with
   |none,none=>match evSlice C st t v l none none with
    |some (r,own)=>some ((st.put o.dst r).own o.dst own)
    |none=>none
   |some _,none=>match bnd C st hi 0 with
    |some h=>match evSlice C st t v l (some h) none with
     |some (r,own)=>some ((st.put o.dst r).own o.dst own)
     |none=>none
    |none=>none
   |some _,some _=>match bnd C st hi 0,bnd C st mx 0 with
    |some h,some m=>match evSlice C st t v l (some h) (some m) with
     |some (r,own)=>some ((st.put o.dst r).own o.dst own)
     |none=>none
    |_,_=>none
   |none,some _=>none
  |_,_=>none
 | .fieldAddr s x f=>match evO C st 0 x with
  |some p=>match evFieldAddr C s f p with
   |some v=>some (st.put o.dst v)
   |none=>none
  |none=>none
 | .field s x f=>match evO C st s x with
  |some p=>match evField C s f p with
   |some v=>some (st.put o.dst v)
   |none=>none
  |none=>none
 | .indexAddr t x ix=>match evO C st t x,evO C st 0 ix with
  |some p,some i=>match intOfV i with
   |some i=>match evIndexAddr C t p i with
    |some v=>some (st.put o.dst v)
    |none=>none
   |none=>none
  |_,_=>none
 | .index t x ix=>match evO C st t x,evO C st 0 ix with
  |some p,some i=>match intOfV i with
   |some i=>match evIndex C t p i with
    |some v=>some (st.put o.dst v)
    |none=>none
   |none=>none
  |_,_=>none
 | .sliceToArrayPointer t x=>match evO C st 0 x with
  |some v=>match evArrayAt C t v with
   |some v=>some (st.put o.dst v)
   |none=>none
  |none=>none
 | .extract x j=>match evO C st 0 x with
  |some (.tup vs)=>match vs[j]? with
   |some v=>match x,o.dst with
    | .tmp s,some d=>some ((st.put o.dst v).give (.c s j) (.t d))
    |_,_=>some (st.put o.dst v)
   |none=>none
  |_=>none
 | .call c=>match c.callee with
  | .builtin b=>evBuiltin C st o.dst b c.args.toList c.argTypes.toList
  | .value f=>match calleeOf st f with
   |some (g,caps)=>match byPtr C st c.args.toList caps o.dst with
    |false=>match evArgs C st c.args.toList c.argTypes.toList with
     |some (vs,st)=>callWith C st g (vs++caps) o.dst
     |none=>none
    |true=>match evArgsP C (rawHint C o.dst) st c.args.toList c.argTypes.toList with
     |some (vs,st)=>handOver C (roomsIf (rawHint C o.dst) st c.args.toList vs) st g (vs++caps) o.dst
     |none=>none
   |none=>none
  |_=>none
 |_=>none
def noHand (C:Ctx) (st:St) (c:Call) (dst:Option Nat):Bool:=
 match c.callee with
 | .value f=>match calleeOf st f with
  |some (_,caps)=> !(byPtr C st c.args.toList caps dst)
  |none=>true
 |_=>true
def wantedV (ops:Array Oper) (st:St) (o:Oper):Option Bool:=
 match o.guard with
 |none=>some true
 |some (j,want)=>match ops[j]? with
  |some oj=>match oj.dst with
   |some t=>match look t st.tmps with
    |some (.d (.bool b))=>some (b==want)
    |some .skip=>some false
    |_=>none
   |none=>none
  |none=>none
def evOps (C:Ctx) (ops:Array Oper):List Oper→St→Option St
 |[],st=>some st
 |o::l,st=>match wantedV ops st o with
  |some true=>match evOp C none o st with
   |some st=>evOps C ops l st
   |none=>none
  |some false=>evOps C ops l (st.put o.dst .skip)
  |none=>none
def Ctx.nolin (C:Ctx) (W L:List Nat):Ctx:= {C with lin:=L,wr:=W}
def wOf (st:St):List Nat→List Nat
 |[]=>[]
 |t::l=>(match look t st.tmps with|some v=>refs v|none=>[])++wOf st l
def isNewB (C:Ctx) (n j:Nat):Bool:=Nat.ble n j||hasNat j C.wr
def St.pad (st:St) (m:Nat):St:= {st with blocks:=st.blocks++List.replicate (m-st.blocks.length) none}
def allLt (C:Ctx) (n:Nat):List Nat→Bool
 |[]=>true
 |i::l=>bif isNewB C n i then false else allLt C n l
def allGe (C:Ctx) (n:Nat):List Nat→Bool
 |[]=>true
 |i::l=>bif isNewB C n i then allGe C n l else false
def refsO (st:St):Operand→List Nat
 | .tmp t=>match look t st.tmps with
  |some v=>refs v
  |none=>[]
 |_=>[]
def noRefs (st:St):List Operand→Bool
 |[]=>true
 |x::l=>match refsO st x with
  |[]=>noRefs st l
  |_=>false
def callFl (fl:Bool) (st:St) (c:Call):Bool:=
 match c.callee with
 | .value _=>fl && !noRefs st c.args.toList
 |_=>false
def drawC (C:Ctx) (n:Nat) (fl:Bool) (st:St) (c:Call):Bool:=
 match c.callee with
 | .builtin .append=>match c.args.toList with
  |x::_=> !isMuO st x
  |[]=>true
 | .builtin .copy=>match c.args.toList with
  |x::l=>noRefs st l && !(fl && !(allGe C n (refsO st x)))
  |[]=>false
 | .builtin .clear=>match c.args.toList with
  |x::_=> !(fl && !(allGe C n (refsO st x)))
  |[]=>false
 |_=>true
def litV (n:Nat) (cs:List V) (j:TI):Option D:=
 match j.k with
 | .int k=>match allI k cs with
  |some ns=>some (.nums k false ns)
  |none=>none
 |_=>match allD cs with
  |some ds=>some (.sl j.size false (chunk j.size n ds))
  |none=>none
mutual
def eqD:D→D→Bool
 | .bool a,.bool b=>a==b
 | .int k n,.int k' m=>(k==k') && (n==m)
 | .str a,.str b=>a==b
 | .nums k n xs,.nums k' m ys=>(k==k') && (n==m) && (xs==ys)
 | .sl z n xs,.sl z' m ys=>Nat.beq z z' && (n==m) && eqDss xs ys
 | .agg a,.agg b=>eqDs a b
 | .ifc t x,.ifc u y=>Nat.beq t u && eqD x y
 | .nilifc,.nilifc=>true
 | .fp a,.fp b=>eqDs a b
 | .nilptr,.nilptr=>true
 | .nilfn,.nilfn=>true
 | .rt a b,.rt c d=>Nat.beq a c && Nat.beq b d
 |_,_=>false
def eqDs:List D→List D→Bool
 |[],[]=>true
 |x::l,y::m=>eqD x y && eqDs l m
 |_,_=>false
def eqDss:List (List D)→List (List D)→Bool
 |[],[]=>true
 |x::l,y::m=>eqDs x y && eqDss l m
 |_,_=>false
end
mutual
def eqV:V→V→Bool
 | .any,.any=>true
 | .skip,.skip=>true
 | .d x,.d y=>eqD x y
 | .ptr i o,.ptr j p=>Nat.beq i j && Nat.beq o p
 | .mu i o l c z,.mu i' o' l' c' z' =>Nat.beq i i' && Nat.beq o o' && Nat.beq l l' && Nat.beq c c' && Nat.beq z z'
 | .gp g o,.gp h p=>Nat.beq g h && Nat.beq o p
 | .fn f a,.fn g b=>Nat.beq f g && eqVs a b
 | .agg a,.agg b=>eqVs a b
 | .tup a,.tup b=>eqVs a b
 |_,_=>false
def eqVs:List V→List V→Bool
 |[],[]=>true
 |x::l,y::m=>eqV x y && eqVs l m
 |_,_=>false
end
def eqB:Option Blk→Option Blk→Bool
 |none,none=>true
 |some (.cells fz a),some (.cells fz' b)=>(fz==fz') && eqVs a b
 |some (.ints fz k a),some (.ints fz' k' b)=>(fz==fz') && (k==k') && (a==b)
 |_,_=>false
def eqBs:List (Option Blk)→List (Option Blk)→Bool
 |[],[]=>true
 |x::l,y::m=>eqB x y && eqBs l m
 |_,_=>false
def Pl.isB:Pl→Bool
 | .b _ _=>true
 |_=>false
def okStill:V→Bool
 | .ptr _ _=>true
 | .d _=>true
 |_=>false
def evStill (C:Ctx) (st:St):List Operand→List Nat→Option (List V)
 |[],_=>some []
 |x::xs,ts=>match evO C st (ts.headD 0) x with
  |some v=>match okStill v,evStill C st xs ts.tail with
   |true,some vs=>some (v::vs)
   |_,_=>none
  |none=>none
def isStC (L:List Nat) (c:Call) (dst:Option Nat):Bool:=
 match c.callee,dst with
 | .value _,some d=>hasNat (d+3000000) L
 |_,_=>false
def firstN:Nat→List (Option Blk)→List (Option Blk)
 |0,_=>[]
 |n+1,b::l=>b::firstN n l
 |n+1,[]=>none::firstN n []
def stillIdx (bl:List (Option Blk)) (args:List V):List Nat:=reach bl bl (newOf [] (refsL args)) (newOf [] (refsL args))
def stillEnd (h:Hand) (bs:List (Option Blk)):Option Ret:=
 match eqBs h.blocks bs,refsL h.vals with
 |true,[]=>some ⟨h.vals,h.own⟩
 |_,_=>none
def stillOn (C:Ctx) (bl:List (Option Blk)) (idx:List Nat) (g:FuncId) (args:List V):Option Ret:=
 match renL (idxOf idx) args,renBs (idxOf idx) (getOs bl idx),bif nodupB idx then allSome (getOs bl idx) else false with
 |some xs,some bs,true=>match C.callP g xs bs [] with
  |some h=>stillEnd h bs
  |none=>none
 |_,_,_=>none
def stillRet (C:Ctx) (bl:List (Option Blk)) (st:St) (c:Call):Option Ret:=
 match c.callee with
 | .value f=>match calleeOf st f with
  |some (g,[])=>match evStill C st c.args.toList c.argTypes.toList with
   |some vs=>stillOn C bl (stillIdx bl vs) g vs
   |none=>none
  |_=>none
 |_=>none
def stillOp (C:Ctx) (n:Nat) (dst:Option Nat) (c:Call) (st:St):Option St:=
 match stillRet C (firstN n st.blocks) st c with
 |some r=>some ((st.disown Pl.isB).putRet dst r)
 |none=>none
def opD (C:Ctx) (n i:Nat) (fl:Bool) (o:Oper) (st:St):Option St:=
 match o.op with
 | .alloc e=>match getB st (n+i) with
  |none=>evOp C (some (n+i)) o (st.pad (n+i+1))
  |some _=>none
 | .box e x=>match getB st (n+i) with
  |none=>evOp C (some (n+i)) o (st.pad (n+i+1))
  |some _=>none
 | .makeSlice t l c=>match getB st (n+i) with
  |none=>evOp C (some (n+i)) o (st.pad (n+i+1))
  |some _=>none
 | .move x=>match evO C st o.type x with
  |some v=>match isTup v with
   |true=>some (st.put o.dst v)
   |false=>some ((st.put o.dst v).pass x o.dst (inLin C o.dst))
  |none=>none
 | .buildSlice t k ps=>match litCells C st t k ps.toList with
  |some (cs,j)=>match litV k cs j with
   |some r=>some ((st.put o.dst (.d r)).own o.dst true)
   |none=>none
  |none=>none
 | .load t x=>match fl && !(allLt C n (refsO st x)) with
  |true=>none
  |false=>evOp C none o st
 | .store t x y=>match fl && !(allGe C n (refsO st x)) with
  |true=>none
  |false=>evOp C none o st
 | .convert s t x=>match fl && !noRefs st [x] with
  |true=>none
  |false=>evOp C none o st
 | .call c=>match isStC C.lin c o.dst with
  |true=>match fl with
   |true=>none
   |false=>stillOp C n o.dst c st
  |false=>match noHand C st c o.dst with
   |true=>match callFl fl st c with
    |true=>none
    |false=>match drawC C n fl st c with
     |true=>evOp C none o st
     |false=>none
   |false=>none
 |_=>evOp C none o st
def evD (C:Ctx) (ops:Array Oper) (n:Nat) (fl:List Nat):Nat→List Oper→St→Option St
 |_,[],st=>some st
 |i,o::l,st=>match wantedV ops st o with
  |some true=>match opD C n i (hasNat i fl) o st with
   |some st=>evD C ops n fl (i+1) l st
   |none=>none
  |some false=>evD C ops n fl (i+1) l (st.put o.dst .skip)
  |none=>none
inductive Ex where
 |normal
 |exit (id:Nat)
 |ret
 deriving Inhabited
mutual
def oldV (n:Nat):V→V
 | .ptr i o=>match Nat.blt i n with|true=> .ptr i o|false=> .any
 | .mu i o l c s=>match Nat.blt i n with|true=> .mu i o l c s|false=> .any
 | .fn f cs=> .fn f (oldL n cs)
 | .agg cs=> .agg (oldL n cs)
 | .tup cs=> .tup (oldL n cs)
 |v=>v
def oldL (n:Nat):List V→List V
 |[]=>[]
 |v::l=>oldV n v::oldL n l
end
def oldB (n:Nat):Option Blk→Option Blk
 |some (.cells fz cs)=>some (.cells fz (oldL n cs))
 |b=>b
def keepT (live:List Nat):List (Nat×V)→List (Nat×V)
 |[]=>[]
 |(t,v)::l=>match hasNat t live with
  |true=>(t,v)::keepT live l
  |false=>keepT live l
def oldT (n:Nat):List (Nat×V)→List (Nat×V)
 |[]=>[]
 |(t,v)::l=>(t,oldV n v)::oldT n l
def keepO (n:Nat) (live:List Nat):Pl→Bool
 | .t t=> !hasNat t live
 | .c t _=> !hasNat t live
 | .b i _=> !Nat.blt i n
def St.trim (st:St) (n:Nat) (live:List Nat):St:=
 {tmps:=oldT n (keepT live st.tmps),blocks:=(st.blocks.take n).map (oldB n),owns:=dropPl (keepO n live) st.owns}
def keyOf:Code→Nat
 | .region id _ _=>id
 | .seq a _=>keyOf a
 | .block _ c=>keyOf c
 | .loop c=>keyOf c
 | .scope c=>keyOf c
 |_=>0
def St.prune (st:St) (live:List Nat):St:=
 {st with tmps:=keepT live st.tmps,owns:=dropPl (fun| .t t=> !hasNat t live| .c t _=> !hasNat t live| .b _ _=>hasNat 2000000 live) st.owns}
def nilPl (st:St):Nat×Option Nat→Option Pl
 |(t,none)=>match look t st.tmps with
  |some v=>bif isNilD v then some (.t t) else none
  |none=>none
 |(t,some j)=>match look t st.tmps with
  |some (.ptr i off)=>match getB st i with
   |some (.cells _ cs)=>match cs[off+j]? with
    |some v=>bif isNilD v then some (.b i (off+j)) else none
    |none=>none
   |_=>none
  |_=>none
def St.ownNils:St→List (Nat×Option Nat)→St
 |st,[]=>st
 |st,h::l=>match nilPl st h with
  |some p=>St.ownNils {st with owns:=p::st.owns} l
  |none=>St.ownNils st l
def St.close (h:RegH) (st:St):St:=
 match h.keep with
 |some l=>(st.ownNils h.nils).prune l
 |none=>st.ownNils h.nils
def iter (body:St→Option (Ex×St)) (n:Nat) (live out:List Nat):Nat→St→Option (Ex×St)
 |0,_=>none
 |k+1,st=>match body (st.trim n live) with
  |some (.normal,st)=>iter body n live out k st
  |some (e,st)=>some (e,st.prune out)
  |none=>none
def ev (C:Ctx) (fuel:Nat):Code→St→Option (Ex×St)
 | .skip,st=>some (.normal,st)
 | .label _,st=>some (.normal,st)
 | .region id ops draw,st=>match draw with
  |false=>match evOps C ops ops.toList st with
   |some st=>some (.normal,st.close (C.reg id))
   |none=>none
  |true=>match evD (C.nolin (wOf st (C.live (id+300000))) (C.live (id+250000))) ops st.blocks.length (C.live (id+200000)) 0 ops.toList st with
   |some st=>some (.normal,st.close (C.reg id))
   |none=>none
 | .seq a b,st=>match ev C fuel a st with
  |some (.normal,st)=>ev C fuel b st
  |r=>r
 | .cond c x y,st=>match evO C st 0 c with
  |some (.d (.bool b))=>match b with
   |true=>ev C fuel x st
   |false=>ev C fuel y st
  |_=>none
 | .block id c,st=>match ev C fuel c st with
  |some (.exit j,st)=>match Nat.beq j id with
   |true=>some (.normal,st)
   |false=>some (.exit j,st)
  |r=>r
 | .loop c,st=>iter (ev C fuel c) st.blocks.length (C.live (keyOf c)) (C.live (keyOf c+100000)) fuel st
 | .scope c,st=>ev C fuel c st
 | .exit id,st=>some (.exit id,st)
 | .ret,st=>some (.ret,st)
 |_,_=>none
def resV (C:Ctx):St→List ResultVar→Option (List V×St)
 |st,[]=>some ([],st)
 |st,r::rs=>match(match r with
   | .tmp t=>look t st.tmps
   | .cell a t=>match look a st.tmps with
    |some p=>evLoad C st t p
    |none=>none) with
  |some v=>match argV C st v with
   |some (v,st)=>match resV C st rs with
    |some (vs,st)=>some (v::vs,st)
    |none=>none
   |none=>none
  |none=>none
def resO (st:St):List ResultVar→Nat→List (Nat×Pl)
 |[],_=>[]
 | .tmp t::rs,j=>(match look t st.tmps with
  |some (.d (.nums _ _ _))|some (.d (.sl _ _ _))=>(match hasPl (.t t) st.owns with|true=>fun l=>(j,Pl.t t)::dropJ t l|false=>fun l=>l)
  |some (.mu _ _ len cap _)=>(match Nat.beq len cap with|true=>fun l=>(j,Pl.c 0 0)::l|false=>fun l=>l)
  |_=>fun l=>l) (resO st rs (j+1))
 | .cell _ _::rs,j=>resO st rs (j+1)
where
 dropJ (t:Nat):List (Nat×Pl)→List (Nat×Pl)
 |[]=>[]
 |(j,p)::l=>match Pl.beq p (.t t) with
  |true=>dropJ t l
  |false=>(j,p)::dropJ t l
def argsT:Nat→List V→List (Nat×V)
 |_,[]=>[]
 |i,v::l=>(i,v)::argsT (i+1) l
def finish (C:Ctx) (rs:List ResultVar):Option (Ex×St)→Option Ret
 |some (.normal,st)|some (.ret,st)=>match resV C st rs with
  |some (vs,st)=>match refsL vs with
   |[]=>some {vals:=vs,own:=(resO st rs 0).map (·.1) }
   |_=>none
  |none=>none
 |_=>none
def run (C:Ctx) (fuel:Nat) (rs:List ResultVar) (c:Code) (args:List V):Option Ret:=
 finish C rs (ev C fuel c {tmps:=argsT 0 args,blocks:=[],owns:=[] })
def resP1 (C:Ctx) (k:Nat) (st:St) (v:V):Option (V×St):=
 match v with
 | .ptr i o=>some (.ptr i o,st)
 | .agg cs=>some (.agg cs,st)
 | .mu i o l c s=>match Nat.blt i k with
  |true=>some (.mu i o l c s,st)
  |false=>argV C st (.mu i o l c s)
 |v=>argV C st v
def resVP (C:Ctx) (k:Nat):St→List ResultVar→Option (List V×St)
 |st,[]=>some ([],st)
 |st,r::rs=>match(match r with
   | .tmp t=>look t st.tmps
   | .cell a t=>match look a st.tmps with
    |some p=>evLoad C st t p
    |none=>none) with
  |some v=>match resP1 C k st v with
   |some (v,st)=>match resVP C k st rs with
    |some (vs,st)=>some (v::vs,st)
    |none=>none
   |none=>none
  |none=>none
def rangeIs:Nat→Nat→List Nat→Bool
 |_,0,_=>true
 |i,k+1,j::l=>bif Nat.beq i j then rangeIs (i+1) k l else false
 |_,_+1,[]=>false
def upTo:Nat→Nat→List Nat
 |_,0=>[]
 |i,k+1=>i::upTo (i+1) k
def finishOn (idx:List Nat) (k:Nat) (st:St) (rs:List ResultVar) (vs:List V):Option Hand:=
 match renL (idxOf idx) vs,renBs (idxOf idx) (getOs st.blocks idx),bif nodupB idx then rangeIs 0 k idx else false with
 |some us,some bs,true=>some {vals:=us,own:=(resO st rs 0).map (·.1),blocks:=bs,bown:=renPl (idxOf idx) st.owns}
 |_,_,_=>none
def finishP (C:Ctx) (k:Nat) (rs:List ResultVar):Option (Ex×St)→Option Hand
 |some (.normal,st)|some (.ret,st)=>match resVP C k st rs with
  |some (vs,st)=>finishOn (reach st.blocks st.blocks (upTo 0 k++newOf (upTo 0 k) (refsL vs)) (upTo 0 k++newOf (upTo 0 k) (refsL vs))) k st rs vs
  |none=>none
 |_=>none
def runP (C:Ctx) (fuel:Nat) (rs:List ResultVar) (c:Code) (args:List V) (bs:List (Option Blk)) (bo:List Pl):Option Hand:=
 finishP C bs.length rs (ev C fuel c {tmps:=argsT 0 args,blocks:=bs,owns:=bo})
end Go.VM
