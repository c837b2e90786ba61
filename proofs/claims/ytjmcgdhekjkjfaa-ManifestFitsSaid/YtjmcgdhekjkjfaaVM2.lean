/- The machine over values: operations. -/
import Derived.Test.YtjmcgdhekjkjfaaVM1
set_option linter.unusedSimpArgs false
set_option linter.unusedVariables false
namespace Go.VM

-- ------------------------------------------------------------ operators

def eqT.part (tt : Nat → Option TI) (t off : Nat) (xs : List D) : Option D :=
  match tt t with
  | some j => bif j.isAgg then (bif Nat.ble (off + j.size) xs.length then some (.agg ((xs.drop off).take j.size)) else none) else xs[off]?
  | none => none
def eqT.eqFs (tt : Nat → Option TI) (rec : Nat → D → D → Option Bool) (xs ys : List D) : List (Nat × Nat) → Option Bool
  | [] => some true
  | (off, t) :: fs => match eqT.part tt t off xs, eqT.part tt t off ys with
    | some x, some y => match rec t x y with
      | some c => bif c then eqT.eqFs tt rec xs ys fs else some false
      | none => none
    | _, _ => none
def eqT.eqEs (tt : Nat → Option TI) (rec : Nat → D → D → Option Bool) (xs ys : List D) (e sz : Nat) : Nat → Nat → Option Bool
  | 0, _ => some true
  | n + 1, off => match eqT.part tt e off xs, eqT.part tt e off ys with
    | some x, some y => match rec e x y with
      | some c => bif c then eqT.eqEs tt rec xs ys e sz n (off + sz) else some false
      | none => none
    | _, _ => none

/-- '==' of data by type. -/
def eqT (tt : Nat → Option TI) : Nat → Nat → D → D → Option Bool
  | 0, _, _, _ => none
  | f + 1, t, a, b => match tt t with
    | none => none
    | some i => match i.k, a, b with
      | .bool, .bool x, .bool y => some (x == y)
      | .int _, .int k x, .int k' y => bif k == k' then some (x == y) else none
      | .str, .str x, .str y => some (x == y)
      | .iface, .nilifc, .nilifc => some true
      | .iface, .nilifc, .ifc _ _ => some false
      | .iface, .ifc _ _, .nilifc => some false
      | .iface, .ifc t x, .ifc u y => bif Nat.beq t u then (match tt t with
          | some j => bif j.cmp then eqT tt f t x y else none
          | none => none) else some false
      | .struct fs, .agg xs, .agg ys => eqT.eqFs tt (eqT tt f) xs ys fs
      | .arr n e, .agg xs, .agg ys => match tt e with
        | some j => eqT.eqEs tt (eqT tt f) xs ys e j.size n 0
        | none => none
      | _, _, _ => none

def isNilIfc : V → Bool
  | .d .nilifc => true
  | _ => false

def isCst : Operand → Bool
  | .const _ => true
  | _ => false

def notB (r : Option Bool) : Option D :=
  match r with
  | some b => some (.bool (!b))
  | none => none

def yesB (r : Option Bool) : Option D :=
  match r with
  | some b => some (.bool b)
  | none => none

def intBitsI (op : BinOp) (k : IntKind) (x y : Int) : Option Int :=
  match op with
  | .and => some (k.wrap (BitVec.ofInt k.bits x &&& BitVec.ofInt k.bits y).toNat)
  | .or => some (k.wrap (BitVec.ofInt k.bits x ||| BitVec.ofInt k.bits y).toNat)
  | .xor => some (k.wrap (BitVec.ofInt k.bits x ^^^ BitVec.ofInt k.bits y).toNat)
  | .andNot => some (k.wrap (BitVec.ofInt k.bits x &&& ~~~ BitVec.ofInt k.bits y).toNat)
  | _ => none

def evInt (op : BinOp) (k : IntKind) (x y : Int) : Option D :=
  match op with
  | .add => some (.int k (k.wrap (x + y)))
  | .sub => some (.int k (k.wrap (x - y)))
  | .mul => some (.int k (k.wrap (x * y)))
  | .quo => bif y == 0 then none else some (.int k (k.wrap (x.tdiv y)))
  | .rem => bif y == 0 then none else some (.int k (k.wrap (x.tmod y)))
  | .eql => some (.bool (x == y))
  | .neq => some (.bool (x != y))
  | .lss => some (.bool (decide (x < y)))
  | .leq => some (.bool (decide (x ≤ y)))
  | .gtr => some (.bool (decide (x > y)))
  | .geq => some (.bool (decide (x ≥ y)))
  | .and | .or | .xor | .andNot => match intBitsI op k x y with
    | some n => some (.int k n)
    | none => none
  | _ => none

def evShift (op : BinOp) (k : IntKind) (x y : Int) : Option D :=
  bif decide (0 ≤ y) then
    (match op with
    | .shl => some (.int k (k.wrap (x * 2 ^ (min y.toNat k.bits))))
    | .shr => some (.int k (k.wrap (x.fdiv (2 ^ (min y.toNat k.bits)))))
    | _ => none)
  else none

/-- A slice against nil: is it nil? -/
def nilOf : V → Option Bool
  | .d (.nums _ n _) => some n
  | .d (.sl _ n _) => some n
  | .mu _ _ _ _ _ => some false
  | _ => none

def litNil : Operand → Bool
  | .const (.slice none 0 0) => true
  | _ => false

/-- A pointer against nil. -/
def nilPtr : V → Option Bool
  | .d .nilptr => some true
  | .d (.fp _) => some false
  | .ptr _ _ => some false
  | .gp _ _ => some false
  | _ => none

def eqFuel : Nat := 60

def evEq (C : Ctx) (t : Nat) (ox oy : Operand) (x y : V) : Option Bool :=
  match C.tt t with
  | none => none
  | some i => match i.k with
    | .bool => match x, y with
      | .d (.bool p), .d (.bool q) => some (p == q)
      | _, _ => none
    | .int _ => match x, y with
      | .d (.int k n), .d (.int k' m) => bif k == k' then some (n == m) else none
      | _, _ => none
    | .str => match x, y with
      | .d (.str p), .d (.str q) => some (p == q)
      | _, _ => none
    | .slice _ => bif litNil oy then nilOf x else bif litNil ox then nilOf y else none
    | .ptr => match nilPtr x, nilPtr y with
      | some true, some b => some b
      | some false, some true => some false
      | _, _ => none
    | .iface => match x, y with
      | .d .nilifc, .d .nilifc => bif isCst ox || isCst oy then some true else none
      | .d .nilifc, .d (.ifc _ _) => some false
      | .d (.ifc _ _), .d .nilifc => some false
      | .d (.ifc s p), .d (.ifc u q) => eqT C.tt eqFuel t (.ifc s p) (.ifc u q)
      | _, _ => none
    | .struct _ => match x, y with
      | .d (.agg p), .d (.agg q) => bif i.eq then eqT C.tt eqFuel t (.agg p) (.agg q) else none
      | _, _ => none
    | .arr _ _ => match x, y with
      | .d (.agg p), .d (.agg q) => bif i.eq then eqT C.tt eqFuel t (.agg p) (.agg q) else none
      | _, _ => none
    | _ => none

def maxStr : Nat := 140737488355328

def evBin (C : Ctx) (op : BinOp) (t : Nat) (ox oy : Operand) (x y : V) : Option D :=
  match x, y with
  | .d (.int k a), .d (.int k' b) => match op with
    | .shl => evShift .shl k a b
    | .shr => evShift .shr k a b
    | _ => bif k == k' then evInt op k a b else none
  | .d (.str a), .d (.str b) => match op with
    | .eql => some (.bool (a == b))
    | .neq => some (.bool (!(a == b)))
    | .add => bif decide (a.length + b.length ≤ maxStr) then some (.str (a ++ b)) else none
    | _ => none
  | _, _ => match op with
    | .eql => yesB (evEq C t ox oy x y)
    | .neq => notB (evEq C t ox oy x y)
    | _ => none

def evUn (op : UnOp) (x : V) : Option D :=
  match op, x with
  | .not, .d (.bool b) => some (.bool (!b))
  | .neg, .d (.int k n) => some (.int k (k.wrap (0 - n)))
  | .xor, .d (.int k n) => match intBitsI .xor k (if k.signed then -1 else k.max) n with
    | some m => some (.int k m)
    | none => none
  | _, _ => none

-- ------------------------------------------------------------ reading

/-- The variable of a type at the head of cells. -/
def headD (i : TI) (cs : List D) : Option V :=
  bif i.isAgg then (bif Nat.ble i.size cs.length then some (.d (.agg (cs.take i.size))) else none)
  else match cs with
    | x :: _ => some (.d x)
    | [] => none

def headV (i : TI) (cs : List V) : Option V :=
  bif i.isAgg then (bif Nat.ble i.size cs.length then some (mkAgg (cs.take i.size)) else none)
  else match cs with
    | x :: _ => some x
    | [] => none

def headI (i : TI) (k : IntKind) (xs : List Int) : Option V :=
  bif i.isAgg then (bif Nat.ble i.size xs.length then some (.d (.agg ((xs.take i.size).map (.int k)))) else none)
  else match xs with
    | x :: _ => some (.d (.int k x))
    | [] => none

def evLoad (C : Ctx) (st : St) (t : Nat) (p : V) : Option V :=
  match C.tt t with
  | none => none
  | some i => match p with
    | .ptr b off => match getB st b with
      | some (.cells _ cs) => headV i (cs.drop off)
      | some (.ints _ k xs) => headI i k (xs.drop off)
      | none => none
    | .d (.fp cs) => headD i cs
    | .gp g off => match C.glob g with
      | some cs => headD i (cs.drop off)
      | none => none
    | _ => none

def allI (k : IntKind) : List V → Option (List Int)
  | [] => some []
  | .d (.int k' n) :: l => bif k == k' then (match allI k l with
    | some ns => some (n :: ns)
    | none => none) else none
  | _ => none

def evStore (C : Ctx) (st : St) (t : Nat) (p v : V) : Option St :=
  match C.tt t, p, cellsV v with
  | some i, .ptr b off, some new => bif Nat.beq new.length i.size then
      (match getB st b with
      | some (.cells false cs) => bif Nat.ble (off + new.length) cs.length then
          some { (st.setB b (.cells false (splice off new cs))) with
            owns := dropPl (fun | .b j o => Nat.beq b j && Nat.ble off o && Nat.blt o (off + new.length) | _ => false) st.owns } else none
      | some (.ints false k xs) => match allI k new with
        | some ns => bif Nat.ble (off + ns.length) xs.length then some (st.setB b (.ints false k (splice off ns xs))) else none
        | none => none
      | _ => none) else none
  | _, _, _ => none

def evFieldAddr (C : Ctx) (s f : Nat) (p : V) : Option V :=
  match C.tt s with
  | some { k := .struct fs, .. } => match fs[f]? with
    | some (o, ft) => match C.tt ft with
      | some j => bif Nat.blt 0 j.size then (match p with
          | .ptr b off => some (.ptr b (off + o))
          | .d (.fp cs) => some (.d (.fp (cs.drop o)))
          | .gp g off => some (.gp g (off + o))
          | _ => none) else none
      | none => none
    | none => none
  | _ => none

def evField (C : Ctx) (s f : Nat) (v : V) : Option V :=
  match C.tt s with
  | some { k := .struct fs, .. } => match fs[f]? with
    | some (o, ft) => match C.tt ft with
      | some j => match v with
        | .d (.agg cs) => headD j (cs.drop o)
        | .agg cs => headV j (cs.drop o)
        | _ => none
      | none => none
    | none => none
  | _ => none

def evIndexAddr (C : Ctx) (t : Nat) (p : V) (ix : Int) : Option V :=
  bif decide (0 ≤ ix) then
    (match C.tt t with
    | some { k := .arr n e, .. } => match C.tt e with
      | some j => bif decide (ix < (n : Int)) then (match p with
          | .ptr b off => some (.ptr b (off + ix.toNat * j.size))
          | .d (.fp cs) => some (.d (.fp (cs.drop (ix.toNat * j.size))))
          | .gp g off => some (.gp g (off + ix.toNat * j.size))
          | _ => none) else none
      | none => none
    | some { k := .slice e, .. } => match C.tt e with
      | some j => match p with
        | .d (.nums k _ xs) => bif Nat.beq j.size 1 then (match xs[ix.toNat]? with
          | some x => some (.d (.fp [.int k x]))
          | none => none) else none
        | .d (.sl sz _ xs) => bif Nat.beq j.size sz then (match xs[ix.toNat]? with
          | some c => some (.d (.fp c))
          | none => none) else none
        | .mu b off len _ sz => bif Nat.beq j.size sz && decide (ix < (len : Int)) then some (.ptr b (off + ix.toNat * sz)) else none
        | _ => none
      | none => none
    | _ => none)
  else none

def evIndex (C : Ctx) (t : Nat) (v : V) (ix : Int) : Option V :=
  bif decide (0 ≤ ix) then
    (match C.tt t with
    | some { k := .arr n e, .. } => match C.tt e with
      | some j => bif decide (ix < (n : Int)) then (match v with
          | .d (.agg cs) => headD j (cs.drop (ix.toNat * j.size))
          | .agg cs => headV j (cs.drop (ix.toNat * j.size))
          | _ => none) else none
      | none => none
    | some { k := .str, .. } => match v with
      | .d (.str s) => match s[ix.toNat]? with
        | some c => some (.d (.int .u8 c))
        | none => none
      | _ => none
    | _ => none)
  else none

-- ------------------------------------------------------------ making

def fillV : List V → List (Nat × Nat × V) → Option (List V)
  | cs, [] => some cs
  | cs, (off, sz, v) :: l => match cellsV v with
    | some new => bif Nat.beq new.length sz && Nat.ble (off + sz) cs.length then fillV (splice off new cs) l else none
    | none => none

def partsAt (C : Ctx) (st : St) (place : Nat → Option (Nat × Nat)) : List (Nat × Operand) → Option (List (Nat × Nat × V))
  | [] => some []
  | (i, x) :: l => match place i with
    | some (off, ft) => match C.tt ft, evO C st ft x with
      | some j, some v => match partsAt C st place l with
        | some r => some ((off, j.size, v) :: r)
        | none => none
      | _, _ => none
    | none => none

def evBuild (C : Ctx) (st : St) (t : Nat) (parts : List (Nat × Operand)) : Option V :=
  match C.tt t with
  | some i => match i.k with
    | .struct fs => match partsAt C st (fun j => fs[j]?) parts with
      | some ps => match fillV (i.zero.map .d) ps with
        | some cs => some (mkAgg cs)
        | none => none
      | none => none
    | .arr _ e => match C.tt e with
      | some j => match partsAt C st (fun n => some (n * j.size, e)) parts with
        | some ps => match fillV (i.zero.map .d) ps with
          | some cs => some (mkAgg cs)
          | none => none
        | none => none
      | none => none
    | _ => none
  | none => none

def rep {α : Type} (n : Nat) (l : List α) : List α :=
  match n with
  | 0 => []
  | m + 1 => l ++ rep m l

/-- The cells of a slice's literal. -/
def litCells (C : Ctx) (st : St) (t n : Nat) (parts : List (Nat × Operand)) : Option (List V × TI) :=
  match C.tt t with
  | some { k := .slice e, .. } => match C.tt e with
    | some j => bif Nat.ble (n * j.size) 16777216 && Nat.blt 0 j.size then (match partsAt C st (fun i => some (i * j.size, e)) parts with
      | some ps => match fillV (rep n (j.zero.map .d)) ps with
        | some cs => some (cs, j)
        | none => none
      | none => none) else none
    | none => none
  | _ => none

def bitOf (C : Ctx) (st : St) (t : Nat) (x : Operand) : Option Bool :=
  match evO C st t x with
  | some (.d (.bool b)) => some b
  | _ => none

def room : Nat := 140737488355328

def evMake (C : Ctx) (st : St) (slot : Option Nat) (t : Nat) (n : Int) : Option (V × St) :=
  match C.tt t with
  | some { k := .slice e, .. } => match C.tt e with
    | some j => bif decide (0 ≤ n) && decide (n ≤ 9223372036854775807) && decide ((j.bytes : Int) * n ≤ 281474976710656) && Nat.blt 0 j.size then
        (match j.k with
        | .int k => let r := st.new slot (.ints false k (List.replicate n.toNat 0)); some (.mu r.1 0 n.toNat n.toNat 1, r.2)
        | _ => let r := st.new slot (.cells false (rep n.toNat (j.zero.map .d))); some (.mu r.1 0 n.toNat n.toNat j.size, r.2)) else none
    | none => none
  | _ => none

def bnd (C : Ctx) (st : St) (x : Option Operand) (dflt : Int) : Option Int :=
  match x with
  | none => some dflt
  | some o => match evO C st 0 o with
    | some (.d (.int _ n)) => some n
    | _ => none

def blkLen : Option Blk → Nat
  | some (.cells _ cs) => cs.length
  | some (.ints _ _ xs) => xs.length
  | none => 0

/-- x[l:h:m]; the second: no room is left behind it. -/
def evSlice (C : Ctx) (st : St) (t : Nat) (x : V) (lo : Int) (hi mx : Option Int) : Option (V × Bool) :=
  match x with
  | .d (.str s) => match C.tt t, mx with
    | some { k := .str, .. }, none =>
      let h := hi.getD s.length
      bif decide (0 ≤ lo) && decide (lo ≤ h) && decide (h ≤ s.length) then some (.d (.str ((s.take h.toNat).drop lo.toNat)), false) else none
    | _, _ => none
  | .d (.nums k nl xs) => match C.tt t with
    | some { k := .slice e, .. } => match C.tt e with
      | some j =>
        let h := hi.getD xs.length
        let m := mx.getD xs.length
        bif Nat.beq j.size 1 && decide (0 ≤ lo) && decide (lo ≤ h) && decide (h ≤ m) && decide (m ≤ xs.length) then
          some (.d (.nums k nl ((xs.take h.toNat).drop lo.toNat)), mx.isSome && (h == m)) else none
      | none => none
    | _ => none
  | .d (.sl sz nl xs) => match C.tt t with
    | some { k := .slice e, .. } => match C.tt e with
      | some j =>
        let h := hi.getD xs.length
        let m := mx.getD xs.length
        bif Nat.beq j.size sz && decide (0 ≤ lo) && decide (lo ≤ h) && decide (h ≤ m) && decide (m ≤ xs.length) then
          some (.d (.sl sz nl ((xs.take h.toNat).drop lo.toNat)), mx.isSome && (h == m)) else none
      | none => none
    | _ => none
  | .mu b off len cap sz => match C.tt t with
    | some { k := .slice e, .. } => match C.tt e, mx with
      | some j, none =>
        let h := hi.getD len
        bif Nat.beq j.size sz && decide (0 ≤ lo) && decide (lo ≤ h) && decide (h ≤ cap) then
          some (.mu b (off + lo.toNat * sz) (h.toNat - lo.toNat) (cap - lo.toNat) sz, false) else none
      | _, _ => none
    | _ => none
  | .ptr b off => match C.tt t with
    | some { k := .arr n e, .. } => match C.tt e, mx with
      | some j, none =>
        let h := hi.getD n
        bif Nat.blt 0 j.size && decide (0 ≤ lo) && decide (lo ≤ h) && decide (h ≤ n) && Nat.ble (off + n * j.size) (blkLen (getB st b)) && Nat.ble n 1000000 then
          some (.mu b (off + lo.toNat * j.size) (h.toNat - lo.toNat) (n - lo.toNat) j.size, false) else none
      | _, _ => none
    | _ => none
  | _ => none

def evConv (C : Ctx) (st : St) (s d : Nat) (x : V) : Option (V × Bool) :=
  match C.tt s, C.tt d with
  | some i, some j => match j.k, x with
    | .int k, .d (.int _ n) => some (.d (.int k (k.wrap n)), false)
    | .str, .d (.str l) => some (.d (.str l), false)
    | .str, .d (.nums .u8 _ xs) => match i.k with
      | .slice e => match C.tt e with
        | some { k := .int .u8, .. } => some (.d (.str xs), false)
        | _ => none
      | _ => none
    | .str, .mu b off len _ sz => match i.k with
      | .slice e => match C.tt e, getB st b with
        | some { k := .int .u8, .. }, some (.ints _ .u8 xs) => bif Nat.beq sz 1 then some (.d (.str ((xs.drop off).take len)), false) else none
        | _, _ => none
      | _ => none
    | .slice e, .d (.str l) => match C.tt e with
      | some { k := .int .u8, .. } => some (.d (.nums .u8 false l), false)
      | _ => none
    | _, _ => none
  | _, _ => none

-- ------------------------------------------------------------ the builtins

def lenV (C : Ctx) (t : Nat) (x : V) : Option Nat :=
  match C.tt t with
  | none => none
  | some i => match i.k, x with
    | .str, .d (.str s) => some s.length
    | .slice _, .d (.nums _ _ xs) => some xs.length
    | .slice _, .d (.sl _ _ xs) => some xs.length
    | .slice _, .mu _ _ len _ _ => some len
    | .arr n _, _ => bif Nat.ble n 1000000 then some n else none
    | _, _ => none

/-- What is appended, or copied: cells' data. -/
def srcNums (st : St) (k : IntKind) : V → Option (List Int)
  | .d (.nums k' _ xs) => bif k == k' then some xs else none
  | .d (.str l) => bif k == .u8 then some l else none
  | .mu b off len _ sz => match getB st b with
    | some (.ints _ k' xs) => bif k == k' && Nat.beq sz 1 then some ((xs.drop off).take len) else none
    | _ => none
  | _ => none

def srcSl (st : St) (sz : Nat) : V → Option (List (List D))
  | .d (.sl sz' _ xs) => bif Nat.beq sz sz' then some xs else none
  | .mu b off len _ sz' => match getB st b with
    | some (.cells _ cs) => bif Nat.beq sz sz' then (match allD ((cs.drop off).take (len * sz)) with
      | some ds => some (chunk sz len ds)
      | none => none) else none
    | _ => none
  | _ => none

/-- append: the base's slot must own its room. -/
def evAppend (C : Ctx) (st : St) (t : Nat) (own : Bool) (b x : V) : Option D :=
  match C.tt t with
  | some { k := .slice e, .. } => match C.tt e with
    | some j => match b with
      | .d (.nums k nl xs) => bif (own || nl) && Nat.beq j.size 1 then (match srcNums st k x with
        | some ys => bif decide ((xs.length + ys.length) * j.bytes ≤ room) && decide (xs.length + ys.length ≤ room) then some (.nums k (nl && ys.isEmpty) (xs ++ ys)) else none
        | none => none) else none
      | .d (.sl sz nl xs) => bif (own || nl) && Nat.beq j.size sz && Nat.blt 0 sz then (match srcSl st sz x with
        | some ys => bif decide ((xs.length + ys.length) * j.bytes ≤ room) && decide (xs.length + ys.length ≤ room) then some (.sl sz (nl && ys.isEmpty) (xs ++ ys)) else none
        | none => none) else none
      | _ => none
    | none => none
  | _ => none

def minI (a b : Int) : Int := bif decide (b < a) then b else a
def maxI (a b : Int) : Int := bif decide (b > a) then b else a

end Go.VM
