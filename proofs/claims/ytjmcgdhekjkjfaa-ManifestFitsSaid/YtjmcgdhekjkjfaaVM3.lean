/- The machine over values: code and calls. -/
import Derived.Test.YtjmcgdhekjkjfaaVM2
set_option linter.unusedSimpArgs false
set_option linter.unusedVariables false
namespace Go.VM

mutual
def refs : V → List Nat
  | .ptr i _ => [i]
  | .mu i _ _ _ _ => [i]
  | .fn _ cs => refsL cs
  | .agg cs => refsL cs
  | .tup cs => refsL cs
  | _ => []
def refsL : List V → List Nat
  | [] => []
  | v :: l => refs v ++ refsL l
end

def isSl : V → Bool
  | .d (.nums _ _ _) => true
  | .d (.sl _ _ _) => true
  | _ => false

def isTup : V → Bool
  | .tup _ => true
  | _ => false

/-- What x's slot owned goes over to dst. -/
def St.pass (st : St) (x : Operand) (dst : Option Nat) (yes : Bool) : St :=
  match yes, x, dst with
  | true, .tmp s, some d => st.give (.t s) (.t d)
  | _, _, _ => st

def giveC (s d : Nat) : List Pl → List Pl
  | [] => []
  | .c u j :: l => (match Nat.beq u s with | true => .c d j | false => .c u j) :: giveC s d l
  | p :: l => p :: giveC s d l

def St.passTup (st : St) (x : Operand) (dst : Option Nat) : St :=
  match x, dst with
  | .tmp s, some d => { st with owns := giveC s d st.owns }
  | _, _ => st

def inLin (C : Ctx) (dst : Option Nat) : Bool :=
  match dst with
  | some d => hasNat d C.lin
  | none => false

def St.own (st : St) (dst : Option Nat) (yes : Bool) : St :=
  match yes, dst with
  | true, some d => { st with owns := .t d :: st.owns }
  | _, _ => st

/-- An argument goes over as data. -/
def argV (C : Ctx) (st : St) (v : V) : Option (V × St) :=
  match v with
  | .gp g o => some (.gp g o, st)
  | .fn f cs => match refsL cs with
    | [] => some (.fn f cs, st)
    | _ => none
  | .agg cs => match refsL cs with
    | [] => some (.agg cs, st)
    | _ => none
  | v => match asD C st v with
    | some (x, st) => some (.d x, st)
    | none => none

def evArgs (C : Ctx) : St → List Operand → List Nat → Option (List V × St)
  | st, [], _ => some ([], st)
  | st, x :: xs, ts => match evO C st (ts.headD 0) x with
    | some v => match argV C st v with
      | some (v, st) => match evArgs C st xs ts.tail with
        | some (vs, st) => some (v :: vs, st)
        | none => none
      | none => none
    | none => none

def ownC (d : Nat) : List Nat → List Pl
  | [] => []
  | j :: l => .c d j :: ownC d l

def St.putRet (st : St) (dst : Option Nat) (r : Ret) : St :=
  match r.vals with
  | [v] => (st.put dst v).own dst (hasNat 0 r.own)
  | vs => let st := st.put dst (.tup vs)
    match dst with
    | some d => { st with owns := ownC d r.own ++ st.owns }
    | none => st

/-- The call of a function: nothing that can be written goes over. -/
def callWith (C : Ctx) (st : St) (g : FuncId) (args : List V) (dst : Option Nat) : Option St :=
  match refsL args with
  | [] => match C.call g args with
    | some r => match refsL r.vals with
      | [] => some (st.putRet dst r)
      | _ => none
    | none => none
  | _ => none

def isTmp : Operand → Bool
  | .tmp _ => true
  | _ => false

def plOf : Operand → Pl
  | .tmp i => .t i
  | _ => .t 0

/-- Is it a type whose values can be appended? -/
def isSrc (C : Ctx) (u : Nat) : Bool :=
  match C.tt u with
  | some { k := .slice _, .. } => true
  | some { k := .str, .. } => true
  | _ => false

def evBuiltin (C : Ctx) (st : St) (dst : Option Nat) (b : Builtin) (args : List Operand) (ts : List Nat) : Option St :=
  match b, args, ts with
  | .len, [x], [t] => match evO C st t x with
    | some v => match lenV C t v with
      | some n => some (st.put dst (.d (.int .i64 n)))
      | none => none
    | none => none
  | .min, [x, y], _ => match evO C st 0 x, evO C st 0 y with
    | some (.d (.int k a)), some (.d (.int k' c)) => match k == k' with
      | true => some (st.put dst (.d (.int k (minI a c))))
      | false => none
    | _, _ => none
  | .max, [x, y], _ => match evO C st 0 x, evO C st 0 y with
    | some (.d (.int k a)), some (.d (.int k' c)) => match k == k' with
      | true => some (st.put dst (.d (.int k (maxI a c))))
      | false => none
    | _, _ => none
  | .append, [x, y], [t, u] => match evO C st t x, evO C st u y with
    | some v, some s => match isSrc C u with
      | false => none
      | true => match evAppend C st t (isTmp x && hasPl (plOf x) st.owns) v s with
        | some r => some (((st.disown (Pl.beq (plOf x))).put dst (.d r)).own dst true)
        | none => none
    | _, _ => none
  | _, _, _ => none

def calleeOf (st : St) : Operand → Option (FuncId × List V)
  | .func g => some (g, [])
  | .tmp t => match look t st.tmps with
    | some (.fn g cs) => some (g, cs)
    | _ => none
  | _ => none

def evCaps (C : Ctx) (st : St) : List Operand → Option (List V)
  | [] => some []
  | x :: xs => match evO C st 0 x with
    | some (.d y) => match evCaps C st xs with
      | some vs => some (.d y :: vs)
      | none => none
    | some (.ptr i o) => match evCaps C st xs with
      | some vs => some (.ptr i o :: vs)
      | none => none
    | some (.fn f cs) => match evCaps C st xs with
      | some vs => some (.fn f cs :: vs)
      | none => none
    | _ => none

def evOp (C : Ctx) (slot : Option Nat) (o : Oper) (st : St) : Option St :=
  match o.op with
  | .move x => match evO C st o.type x with
    | some v => match isTup v with
      | true => some ((st.put o.dst v).passTup x o.dst)
      | false => some ((st.put o.dst v).pass x o.dst (inLin C o.dst))
    | none => none
  | .assign x => match evO C st o.type x with
    | some v => some ((st.put o.dst v).pass x o.dst true)
    | none => none
  | .pick c a b => match evO C st 0 c with
    | some (.d (.bool c)) => match evO C st o.type (match c with | true => a | false => b) with
      | some v => some (st.put o.dst v)
      | none => none
    | _ => none
  | .alloc e => match C.tt e with
    | some i => let r := st.new slot (.cells false (i.zero.map .d)); some (r.2.put o.dst (.ptr r.1 0))
    | none => none
  | .box e x => match evO C st e x with
    | some v => match cellsV v with
      | some cs => let r := st.new slot (.cells false cs); some (r.2.put o.dst (.ptr r.1 0))
      | none => none
    | none => none
  | .build t ps => match evBuild C st t ps.toList with
    | some v => some (st.put o.dst v)
    | none => none
  | .buildSlice t n ps => match litCells C st t n ps.toList with
    | some (cs, j) => match j.k, allI (match j.k with | .int k => k | _ => .i64) cs, allD cs with
      | .int k, some ns, _ => some ((st.put o.dst (.d (.nums k false ns))).own o.dst true)
      | .int _, none, _ => none
      | _, _, some ds => some ((st.put o.dst (.d (.sl j.size false (chunk j.size n ds)))).own o.dst true)
      | _, _, none => let r := st.new slot (.cells false cs); some (r.2.put o.dst (.mu r.1 0 n n j.size))
    | none => none
  | .load t x => match evO C st 0 x with
    | some p => match evLoad C st t p with
      | some v => match p, o.dst, inLin C o.dst && isSl v with
        | .ptr b off, some d, true => some ((st.put o.dst v).give (.b b off) (.t d))
        | _, _, _ => some (st.put o.dst v)
      | none => none
    | none => none
  | .store t x y => match evO C st 0 x, evO C st t y with
    | some p, some v => match evStore C st t p v with
      | some st => match p, y, isSl v with
        | .ptr b off, .tmp s, true => some ((st.give (.t s) (.b b off)).put o.dst .skip)
        | _, _, _ => some (st.put o.dst .skip)
      | none => none
    | _, _ => none
  | .nilCheck x => match evO C st 0 x with
    | some (.fn f cs) => some (st.put o.dst (.fn f cs))
    | some v => match nilPtr v with
      | some false => some (st.put o.dst v)
      | _ => none
    | none => none
  | .binOp op t x y _ => match evO C st t x, evO C st t y with
    | some a, some b => match evBin C op t x y a b with
      | some r => some (st.put o.dst (.d r))
      | none => none
    | _, _ => none
  | .unOp op t x => match evO C st t x with
    | some a => match evUn op a with
      | some r => some (st.put o.dst (.d r))
      | none => none
    | none => none
  | .convert s d x => match evO C st s x with
    | some a => match evConv C st s d a with
      | some (v, own) => some ((st.put o.dst v).own o.dst own)
      | none => none
    | none => none
  | .makeInterface t x => match evO C st t x with
    | some a => match asD C st a, C.tt t with
      | some (d, st), some i => match i.k with
        | .iface => none
        | _ => some (st.put o.dst (.d (.ifc t d)))
      | _, _ => none
    | none => none
  | .makeFunc (.func f) first caps => match first.size, evCaps C st caps.toList with
    | 0, some cs => some (st.put o.dst (.fn f cs))
    | _, _ => none
  | .makeSlice t l c => match evO C st 0 l, evO C st 0 c with
    | some (.d (.int _ n)), some (.d (.int _ m)) => match n == m with
      | true => match evMake C st slot t n with
        | some (v, st) => some (st.put o.dst v)
        | none => none
      | false => none
    | _, _ => none
  | .slice t x lo hi mx => match evO C st t x, bnd C st lo 0 with
    | some v, some l => match hi, mx with
      | none, none => match evSlice C st t v l none none with
        | some (r, own) => some ((st.put o.dst r).own o.dst own)
        | none => none
      | some _, none => match bnd C st hi 0 with
        | some h => match evSlice C st t v l (some h) none with
          | some (r, own) => some ((st.put o.dst r).own o.dst own)
          | none => none
        | none => none
      | some _, some _ => match bnd C st hi 0, bnd C st mx 0 with
        | some h, some m => match evSlice C st t v l (some h) (some m) with
          | some (r, own) => some ((st.put o.dst r).own o.dst own)
          | none => none
        | _, _ => none
      | none, some _ => none
    | _, _ => none
  | .fieldAddr s x f => match evO C st 0 x with
    | some p => match evFieldAddr C s f p with
      | some v => some (st.put o.dst v)
      | none => none
    | none => none
  | .field s x f => match evO C st s x with
    | some p => match evField C s f p with
      | some v => some (st.put o.dst v)
      | none => none
    | none => none
  | .indexAddr t x ix => match evO C st t x, evO C st 0 ix with
    | some p, some i => match intOfV i with
      | some i => match evIndexAddr C t p i with
        | some v => some (st.put o.dst v)
        | none => none
      | none => none
    | _, _ => none
  | .index t x ix => match evO C st t x, evO C st 0 ix with
    | some p, some i => match intOfV i with
      | some i => match evIndex C t p i with
        | some v => some (st.put o.dst v)
        | none => none
      | none => none
    | _, _ => none
  | .extract x j => match evO C st 0 x with
    | some (.tup vs) => match vs[j]? with
      | some v => match x, o.dst with
        | .tmp s, some d => some ((st.put o.dst v).give (.c s j) (.t d))
        | _, _ => some (st.put o.dst v)
      | none => none
    | _ => none
  | .call c => match c.callee with
    | .builtin b => evBuiltin C st o.dst b c.args.toList c.argTypes.toList
    | .value f => match calleeOf st f with
      | some (g, caps) => match evArgs C st c.args.toList c.argTypes.toList with
        | some (vs, st) => callWith C st g (vs ++ caps) o.dst
        | none => none
      | none => none
    | _ => none
  | _ => none

/-- Is an operation to be done? -/
def wantedV (ops : Array Oper) (st : St) (o : Oper) : Option Bool :=
  match o.guard with
  | none => some true
  | some (j, want) => match ops[j]? with
    | some oj => match oj.dst with
      | some t => match look t st.tmps with
        | some (.d (.bool b)) => some (b == want)
        | some .skip => some false
        | _ => none
      | none => none
    | none => none

def evOps (C : Ctx) (ops : Array Oper) : List Oper → St → Option St
  | [], st => some st
  | o :: l, st => match wantedV ops st o with
    | some true => match evOp C none o st with
      | some st => evOps C ops l st
      | none => none
    | some false => evOps C ops l (st.put o.dst .skip)
    | none => none

/-- No slot's room goes over by a move or a load. -/
def Ctx.nolin (C : Ctx) : Ctx := { C with lin := [] }

/-- Places for m blocks. -/
def St.pad (st : St) (m : Nat) : St := { st with blocks := st.blocks ++ List.replicate (m - st.blocks.length) none }

def allLt (n : Nat) : List Nat → Bool
  | [] => true
  | i :: l => bif Nat.blt i n then allLt n l else false

def allGe (n : Nat) : List Nat → Bool
  | [] => true
  | i :: l => bif Nat.ble n i then allGe n l else false

def refsO (st : St) : Operand → List Nat
  | .tmp t => match look t st.tmps with
    | some v => refs v
    | none => []
  | _ => []

/-- A slice's literal that is data. -/
def litV (n : Nat) (cs : List V) (j : TI) : Option D :=
  match j.k with
  | .int k => match allI k cs with
    | some ns => some (.nums k false ns)
    | none => none
  | _ => match allD cs with
    | some ds => some (.sl j.size false (chunk j.size n ds))
    | none => none

/-- An operation of a region whose order is open: block n + i is kept for the i-th. -/
def opD (C : Ctx) (n i : Nat) (fl : Bool) (o : Oper) (st : St) : Option St :=
  match o.op with
  | .alloc e => match getB st (n + i) with
    | none => evOp C (some (n + i)) o (st.pad (n + i + 1))
    | some _ => none
  | .box e x => match getB st (n + i) with
    | none => evOp C (some (n + i)) o (st.pad (n + i + 1))
    | some _ => none
  | .makeSlice t l c => match getB st (n + i) with
    | none => evOp C (some (n + i)) o (st.pad (n + i + 1))
    | some _ => none
  | .move x => match evO C st o.type x with
    | some v => match isTup v with
      | true => none
      | false => some (st.put o.dst v)
    | none => none
  | .buildSlice t k ps => match litCells C st t k ps.toList with
    | some (cs, j) => match litV k cs j with
      | some r => some ((st.put o.dst (.d r)).own o.dst true)
      | none => none
    | none => none
  | .load t x => match fl && !(allLt n (refsO st x)) with
    | true => none
    | false => evOp C none o st
  | .store t x y => match fl && !(allGe n (refsO st x)) with
    | true => none
    | false => evOp C none o st
  | _ => evOp C none o st

/-- The operations of a region whose order is open, in the order in which they are listed. -/
def evD (C : Ctx) (ops : Array Oper) (n : Nat) (fl : List Nat) : Nat → List Oper → St → Option St
  | _, [], st => some st
  | i, o :: l, st => match wantedV ops st o with
    | some true => match opD C n i (hasNat i fl) o st with
      | some st => evD C ops n fl (i + 1) l st
      | none => none
    | some false => evD C ops n fl (i + 1) l (st.put o.dst .skip)
    | none => none

inductive Ex where
  | normal
  | exit (id : Nat)
  | ret
  deriving Inhabited

mutual
def oldV (n : Nat) : V → V
  | .ptr i o => match Nat.blt i n with | true => .ptr i o | false => .any
  | .mu i o l c s => match Nat.blt i n with | true => .mu i o l c s | false => .any
  | .fn f cs => .fn f (oldL n cs)
  | .agg cs => .agg (oldL n cs)
  | .tup cs => .tup (oldL n cs)
  | v => v
def oldL (n : Nat) : List V → List V
  | [] => []
  | v :: l => oldV n v :: oldL n l
end

def oldB (n : Nat) : Option Blk → Option Blk
  | some (.cells fz cs) => some (.cells fz (oldL n cs))
  | b => b

def keepT (live : List Nat) : List (Nat × V) → List (Nat × V)
  | [] => []
  | (t, v) :: l => match hasNat t live with
    | true => (t, v) :: keepT live l
    | false => keepT live l

def oldT (n : Nat) : List (Nat × V) → List (Nat × V)
  | [] => []
  | (t, v) :: l => (t, oldV n v) :: oldT n l

def keepO (n : Nat) (live : List Nat) : Pl → Bool
  | .t t => !hasNat t live
  | .c t _ => !hasNat t live
  | .b i _ => !Nat.blt i n

/-- Only these slots, and the first n blocks, are kept. -/
def St.trim (st : St) (n : Nat) (live : List Nat) : St :=
  { tmps := oldT n (keepT live st.tmps), blocks := (st.blocks.take n).map (oldB n), owns := dropPl (keepO n live) st.owns }

def keyOf : Code → Nat
  | .region id _ _ => id
  | .seq a _ => keyOf a
  | .block _ c => keyOf c
  | .loop c => keyOf c
  | .scope c => keyOf c
  | _ => 0

/-- Only these slots are kept. -/
def St.prune (st : St) (live : List Nat) : St :=
  { st with tmps := keepT live st.tmps, owns := dropPl (fun | .t t => !hasNat t live | .c t _ => !hasNat t live | .b _ _ => false) st.owns }

def iter (body : St → Option (Ex × St)) (n : Nat) (live out : List Nat) : Nat → St → Option (Ex × St)
  | 0, _ => none
  | k + 1, st => match body (st.trim n live) with
    | some (.normal, st) => iter body n live out k st
    | some (e, st) => some (e, st.prune out)
    | none => none

def ev (C : Ctx) (fuel : Nat) : Code → St → Option (Ex × St)
  | .skip, st => some (.normal, st)
  | .label _, st => some (.normal, st)
  | .region id ops draw, st => match draw with
    | false => match evOps C ops ops.toList st with
      | some st => some (.normal, st)
      | none => none
    | true => match evD C.nolin ops st.blocks.length (C.live (id + 200000)) 0 ops.toList st with
      | some st => some (.normal, st)
      | none => none
  | .seq a b, st => match ev C fuel a st with
    | some (.normal, st) => ev C fuel b st
    | r => r
  | .cond c x y, st => match evO C st 0 c with
    | some (.d (.bool b)) => match b with
      | true => ev C fuel x st
      | false => ev C fuel y st
    | _ => none
  | .block id c, st => match ev C fuel c st with
    | some (.exit j, st) => match Nat.beq j id with
      | true => some (.normal, st)
      | false => some (.exit j, st)
    | r => r
  | .loop c, st => iter (ev C fuel c) st.blocks.length (C.live (keyOf c)) (C.live (keyOf c + 100000)) fuel st
  | .scope c, st => ev C fuel c st
  | .exit id, st => some (.exit id, st)
  | .ret, st => some (.ret, st)
  | _, _ => none

/-- What is handed back: all as data. -/
def resV (C : Ctx) : St → List ResultVar → Option (List V × St)
  | st, [] => some ([], st)
  | st, r :: rs => match (match r with
      | .tmp t => look t st.tmps
      | .cell a t => match look a st.tmps with
        | some p => evLoad C st t p
        | none => none) with
    | some v => match argV C st v with
      | some (v, st) => match resV C st rs with
        | some (vs, st) => some (v :: vs, st)
        | none => none
      | none => none
    | none => none

/-- Whose each result's room is. -/
def resO (st : St) : List ResultVar → Nat → List (Nat × Pl)
  | [], _ => []
  | .tmp t :: rs, j => (match look t st.tmps with
    | some (.d (.nums _ _ _)) | some (.d (.sl _ _ _)) => (match hasPl (.t t) st.owns with | true => fun l => (j, Pl.t t) :: dropJ t l | false => fun l => l)
    | some (.mu _ _ len cap _) => (match Nat.beq len cap with | true => fun l => (j, Pl.c 0 0) :: l | false => fun l => l)
    | _ => fun l => l) (resO st rs (j + 1))
  | .cell _ _ :: rs, j => resO st rs (j + 1)
where
  dropJ (t : Nat) : List (Nat × Pl) → List (Nat × Pl)
  | [] => []
  | (j, p) :: l => match Pl.beq p (.t t) with
    | true => dropJ t l
    | false => (j, p) :: dropJ t l

def argsT : Nat → List V → List (Nat × V)
  | _, [] => []
  | i, v :: l => (i, v) :: argsT (i + 1) l

def finish (C : Ctx) (rs : List ResultVar) : Option (Ex × St) → Option Ret
  | some (.normal, st) | some (.ret, st) => match resV C st rs with
    | some (vs, st) => match refsL vs with
      | [] => some { vals := vs, own := (resO st rs 0).map (·.1) }
      | _ => none
    | none => none
  | _ => none

/-- A call. -/
def run (C : Ctx) (fuel : Nat) (rs : List ResultVar) (c : Code) (args : List V) : Option Ret :=
  finish C rs (ev C fuel c { tmps := argsT 0 args, blocks := [], owns := [] })

end Go.VM
