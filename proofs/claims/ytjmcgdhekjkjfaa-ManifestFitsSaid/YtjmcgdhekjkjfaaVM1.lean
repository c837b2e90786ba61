/- A machine over values for the loaded program's code: definitions. Over any program; nothing of a seat stands in it. -/
import Derived.Laws.AppendOwn
import Derived.Laws.CopyRow
import Derived.Laws.BytesString
import Derived.Calls
set_option linter.unusedSimpArgs false
set_option linter.unusedVariables false
namespace Go.VM

/-- Data: a value that no longer changes, with all that it leads to. -/
inductive D where
  | bool (b : Bool)
  | int (k : IntKind) (n : Int)
  | str (s : List Int)
  | nums (k : IntKind) (nil : Bool) (xs : List Int)
  | sl (sz : Nat) (nil : Bool) (xs : List (List D))
  | agg (cs : List D)
  | ifc (t : TypeId) (x : D)
  | nilifc
  | fp (cs : List D)
  | nilptr
  | nilfn
  deriving Inhabited

/-- What a slot holds. -/
inductive V where
  | any
  | skip
  | d (x : D)
  | ptr (i off : Nat)
  | mu (i off len cap sz : Nat)
  | gp (g off : Nat)
  | fn (f : FuncId) (caps : List V)
  | agg (cs : List V)
  | tup (vs : List V)
  deriving Inhabited

inductive Blk where
  | cells (fz : Bool) (cs : List V)
  | ints (fz : Bool) (k : IntKind) (xs : List Int)
  deriving Inhabited

/-- A place: a slot, a part of a slot's tuple, a cell of a block. -/
inductive Pl where
  | t (t : Nat)
  | c (t j : Nat)
  | b (i j : Nat)
  deriving DecidableEq, Inhabited

structure St where
  tmps : List (Nat × V)
  blocks : List (Option Blk)
  owns : List Pl
  deriving Inhabited

inductive TK where
  | bool | int (k : IntKind) | str | ptr | slice (e : Nat) | struct (fs : List (Nat × Nat)) | arr (n e : Nat) | iface | fn | other
  deriving Inhabited

structure TI where
  k : TK
  size : Nat
  bytes : Nat
  zero : List D
  cmp : Bool := true
  eq : Bool := true
  deriving Inhabited

/-- What a call hands back, and which of it is the caller's to append to. -/
structure Ret where
  vals : List V
  own : List Nat
  deriving Inhabited

structure Ctx where
  tt : Nat → Option TI
  glob : Nat → Option (List D)
  call : FuncId → List V → Option Ret
  lin : List Nat
  live : Nat → List Nat

-- ------------------------------------------------------------ slots

def look (t : Nat) : List (Nat × V) → Option V
  | [] => none
  | (u, x) :: l => bif Nat.beq t u then some x else look t l

def ins (t : Nat) (v : V) : List (Nat × V) → List (Nat × V)
  | [] => [(t, v)]
  | (u, x) :: l => bif Nat.blt t u then (t, v) :: (u, x) :: l else bif Nat.beq t u then (t, v) :: l else (u, x) :: ins t v l

def Pl.ofTmp (t : Nat) : Pl → Bool
  | .t u => Nat.beq u t
  | .c u _ => Nat.beq u t
  | .b _ _ => false

def Pl.ofBlk (i : Nat) : Pl → Bool
  | .b j _ => Nat.beq i j
  | _ => false

def Pl.beq : Pl → Pl → Bool
  | .t u, .t v => Nat.beq u v
  | .c u i, .c v j => Nat.beq u v && Nat.beq i j
  | .b u i, .b v j => Nat.beq u v && Nat.beq i j
  | _, _ => false

def hasPl (p : Pl) : List Pl → Bool
  | [] => false
  | q :: l => bif Pl.beq p q then true else hasPl p l

def hasNat (n : Nat) : List Nat → Bool
  | [] => false
  | m :: l => bif Nat.beq n m then true else hasNat n l

def dropPl (f : Pl → Bool) : List Pl → List Pl
  | [] => []
  | q :: l => bif f q then dropPl f l else q :: dropPl f l

def St.put (st : St) (dst : Option Nat) (v : V) : St :=
  match dst with
  | none => st
  | some t => { st with tmps := ins t v st.tmps, owns := dropPl (Pl.ofTmp t) st.owns }

/-- What was owned at p is owned at q. -/
def St.give (st : St) (p q : Pl) : St :=
  bif hasPl p st.owns then { st with owns := q :: dropPl (Pl.beq p) st.owns } else st

def St.disown (st : St) (f : Pl → Bool) : St := { st with owns := dropPl f st.owns }

def getB (st : St) (i : Nat) : Option Blk :=
  match st.blocks[i]? with
  | some (some b) => some b
  | _ => none

def St.setB (st : St) (i : Nat) (b : Blk) : St := { st with blocks := st.blocks.set i (some b) }

/-- A new block: behind all, or at the place that is kept for it. -/
def St.new (st : St) (slot : Option Nat) (b : Blk) : Nat × St :=
  match slot with
  | none => (st.blocks.length, { st with blocks := st.blocks ++ [some b] })
  | some i => (i, { st with blocks := st.blocks.set i (some b) })

-- ------------------------------------------------------------ values

def bytesI (s : ByteArray) : List Int := s.data.toList.map fun b => (b.toNat : Int)

def zcell : Value → D → Bool
  | .bool a, .bool b => a == b
  | .int k n, .int k' m => (k == k') && (n == m) && (k.wrap n == n)
  | .string s, .str [] => Nat.beq s.size 0
  | .slice none 0 0, .nums _ true [] => true
  | .slice none 0 0, .sl _ true [] => true
  | .pointer none, .nilptr => true
  | .nilIface, .nilifc => true
  | .nilFunc, .nilfn => true
  | _, _ => false

def zcells : List Value → List D → Bool
  | [], [] => true
  | v :: vs, x :: xs => zcell v x && zcells vs xs
  | _, _ => false

def TI.isAgg (i : TI) : Bool := match i.k with | .struct _ => true | .arr _ _ => true | _ => false

def absT (tt : Nat → Option TI) (t : Nat) : Value → Option D
  | .bool b => some (.bool b)
  | .int k n => bif k.wrap n == n then some (.int k n) else none
  | .string s => bif Nat.ble s.size 1000000 then some (.str (bytesI s)) else none
  | .pointer none => some .nilptr
  | .nilIface => some .nilifc
  | .nilFunc => some .nilfn
  | .slice none 0 0 => match tt t with
    | some { k := .slice e, .. } => match tt e with
      | some { k := .int k, .. } => some (.nums k true [])
      | some i => some (.sl i.size true [])
      | none => none
    | _ => none
  | .agg cs => match tt t with
    | some i => bif zcells cs.toList i.zero then some (.agg i.zero) else none
    | none => none
  | _ => none

def evO (C : Ctx) (st : St) (t : Nat) : Operand → Option V
  | .tmp u => look u st.tmps
  | .const v => match absT C.tt t v with
    | some x => some (.d x)
    | none => none
  | .global g => some (.gp g 0)
  | .func f => some (.fn f [])

def allD : List V → Option (List D)
  | [] => some []
  | .d x :: l => match allD l with
    | some ds => some (x :: ds)
    | none => none
  | _ => none

def chunk {α : Type} (sz : Nat) : Nat → List α → List (List α)
  | 0, _ => []
  | n + 1, l => l.take sz :: chunk sz n (l.drop sz)

def Blk.freeze : Blk → Blk
  | .cells _ cs => .cells true cs
  | .ints _ k xs => .ints true k xs

def St.freeze (st : St) (i : Nat) : St :=
  match getB st i with
  | some b => { st with blocks := st.blocks.set i (some b.freeze), owns := dropPl (Pl.ofBlk i) st.owns }
  | none => st

/-- A value as data; a block that it leads to is written no more. -/
def asD (C : Ctx) (st : St) : V → Option (D × St)
  | .d x => some (x, st)
  | .mu i off len _ sz => match getB st i with
    | some (.ints _ k xs) => bif Nat.beq sz 1 then some (.nums k false ((xs.drop off).take len), st.freeze i) else none
    | some (.cells _ cs) => match allD ((cs.drop off).take (len * sz)) with
      | some ds => some (.sl sz false (chunk sz len ds), st.freeze i)
      | none => none
    | none => none
  | .ptr i off => match getB st i with
    | some (.cells _ cs) => match allD (cs.drop off) with
      | some ds => some (.fp ds, st.freeze i)
      | none => none
    | _ => none
  | .gp g off => match C.glob g with
    | some cs => some (.fp (cs.drop off), st)
    | none => none
  | _ => none

/-- All as data. -/
def asDs (C : Ctx) (st : St) : List V → Option (List D × St)
  | [] => some ([], st)
  | v :: l => match asD C st v with
    | some (x, st) => match asDs C st l with
      | some (xs, st) => some (x :: xs, st)
      | none => none
    | none => none

def mkAgg (cs : List V) : V :=
  match allD cs with
  | some ds => .d (.agg ds)
  | none => .agg cs

/-- The cells of a value. -/
def cellsV : V → Option (List V)
  | .d (.agg cs) => some (cs.map .d)
  | .agg cs => some cs
  | .d x => some [.d x]
  | .ptr i o => some [.ptr i o]
  | .mu i o l c s => some [.mu i o l c s]
  | .gp g o => some [.gp g o]
  | .fn f cs => some [.fn f cs]
  | _ => none

def splice {α : Type} (off : Nat) (new cs : List α) : List α := cs.take off ++ new ++ cs.drop (off + new.length)

def intOfV : V → Option Int
  | .d (.int _ n) => some n
  | _ => none

end Go.VM
