/- The machine over values: equations to reckon by, for regions whose order is open. -/
import Derived.Test.YtmehkdomnhgmeaaVMS
import Derived.Test.YtmehkdomnhgmeaaVMR
set_option linter.unusedSimpArgs false
set_option linter.unusedVariables false
namespace Go.VM
open Go

section
variable (C : Ctx) (fuel : Nat) (st : St)
theorem ev_regionD (id : Nat) (ops : Array Oper) : ev C fuel (.region id ops true) st = bindS (evD C.nolin ops st.blocks.length (C.live (id + 200000)) 0 ops.toList st) fun st => some (.normal, st) := by
  show (match evD C.nolin ops st.blocks.length (C.live (id + 200000)) 0 ops.toList st with | some st => some (Ex.normal, st) | none => none) = _
  unfold bindS
  cases evD C.nolin ops st.blocks.length (C.live (id + 200000)) 0 ops.toList st <;> rfl
theorem nolin_tt : C.nolin.tt = C.tt := (rfl)
theorem nolin_glob : C.nolin.glob = C.glob := (rfl)
theorem nolin_call : C.nolin.call = C.call := (rfl)
theorem nolin_lin : C.nolin.lin = [] := (rfl)

variable (ops : Array Oper) (n i : Nat) (fl : List Nat) (f : Bool) (l : List Oper) (dst : Option Tmp) (op : Op) (ty : TypeId) (pos : String) (af : Array Edge)
theorem evD_nil : evD C ops n fl i [] st = some st := (rfl)
theorem evD_cons : evD C ops n fl i (⟨dst, op, ty, pos, af, none⟩ :: l) st = bindS (opD C n i (hasNat i fl) ⟨dst, op, ty, pos, af, none⟩ st) fun st => evD C ops n fl (i + 1) l st := by
  show (match opD C n i (hasNat i fl) ⟨dst, op, ty, pos, af, none⟩ st with | some st => evD C ops n fl (i + 1) l st | none => none) = _
  unfold bindS
  cases opD C n i (hasNat i fl) ⟨dst, op, ty, pos, af, none⟩ st <;> rfl
theorem evD_guard (g : Nat × Bool) : evD C ops n fl i (⟨dst, op, ty, pos, af, some g⟩ :: l) st =
    bindV (wantedV ops st ⟨dst, op, ty, pos, af, some g⟩) fun b => condE b (bindS (opD C n i (hasNat i fl) ⟨dst, op, ty, pos, af, none⟩ st) fun st => evD C ops n fl (i + 1) l st) (evD C ops n fl (i + 1) l (st.put dst .skip)) := by
  have e : opD C n i (hasNat i fl) ⟨dst, op, ty, pos, af, some g⟩ st = opD C n i (hasNat i fl) ⟨dst, op, ty, pos, af, none⟩ st := rfl
  show (match wantedV ops st ⟨dst, op, ty, pos, af, some g⟩ with
    | some true => (match opD C n i (hasNat i fl) ⟨dst, op, ty, pos, af, some g⟩ st with | some st => evD C ops n fl (i + 1) l st | none => none)
    | some false => evD C ops n fl (i + 1) l (st.put dst .skip)
    | none => none) = _
  rw [e]
  rcases wantedV ops st ⟨dst, op, ty, pos, af, some g⟩ with _ | b
  · rfl
  · cases b
    · rfl
    · show _ = bindS _ _
      unfold bindS
      cases opD C n i (hasNat i fl) ⟨dst, op, ty, pos, af, none⟩ st <;> rfl

variable (g : Option (Nat × Bool))
theorem od_assign (x : Operand) : opD C n i f ⟨dst, .assign x, ty, pos, af, g⟩ st = evOp C none ⟨dst, .assign x, ty, pos, af, g⟩ st := (rfl)
theorem od_pick (x y z : Operand) : opD C n i f ⟨dst, .pick x y z, ty, pos, af, g⟩ st = evOp C none ⟨dst, .pick x y z, ty, pos, af, g⟩ st := (rfl)
theorem od_build (t : TypeId) (ps : Array (Nat × Operand)) : opD C n i f ⟨dst, .build t ps, ty, pos, af, g⟩ st = evOp C none ⟨dst, .build t ps, ty, pos, af, g⟩ st := (rfl)
theorem od_nilCheck (x : Operand) : opD C n i f ⟨dst, .nilCheck x, ty, pos, af, g⟩ st = evOp C none ⟨dst, .nilCheck x, ty, pos, af, g⟩ st := (rfl)
theorem od_binOp (o : BinOp) (t u : TypeId) (x y : Operand) : opD C n i f ⟨dst, .binOp o t x y u, ty, pos, af, g⟩ st = evOp C none ⟨dst, .binOp o t x y u, ty, pos, af, g⟩ st := (rfl)
theorem od_unOp (o : UnOp) (t : TypeId) (x : Operand) : opD C n i f ⟨dst, .unOp o t x, ty, pos, af, g⟩ st = evOp C none ⟨dst, .unOp o t x, ty, pos, af, g⟩ st := (rfl)
theorem od_convert (s t : TypeId) (x : Operand) : opD C n i f ⟨dst, .convert s t x, ty, pos, af, g⟩ st = evOp C none ⟨dst, .convert s t x, ty, pos, af, g⟩ st := (rfl)
theorem od_makeInterface (t : TypeId) (x : Operand) : opD C n i f ⟨dst, .makeInterface t x, ty, pos, af, g⟩ st = evOp C none ⟨dst, .makeInterface t x, ty, pos, af, g⟩ st := (rfl)
theorem od_makeFunc (x : Fn) (p q : Array Operand) : opD C n i f ⟨dst, .makeFunc x p q, ty, pos, af, g⟩ st = evOp C none ⟨dst, .makeFunc x p q, ty, pos, af, g⟩ st := (rfl)
theorem od_slice (t : TypeId) (x : Operand) (p q r : Option Operand) : opD C n i f ⟨dst, .slice t x p q r, ty, pos, af, g⟩ st = evOp C none ⟨dst, .slice t x p q r, ty, pos, af, g⟩ st := (rfl)
theorem od_fieldAddr (t : TypeId) (x : Operand) (k : Nat) : opD C n i f ⟨dst, .fieldAddr t x k, ty, pos, af, g⟩ st = evOp C none ⟨dst, .fieldAddr t x k, ty, pos, af, g⟩ st := (rfl)
theorem od_field (t : TypeId) (x : Operand) (k : Nat) : opD C n i f ⟨dst, .field t x k, ty, pos, af, g⟩ st = evOp C none ⟨dst, .field t x k, ty, pos, af, g⟩ st := (rfl)
theorem od_indexAddr (t : TypeId) (x y : Operand) : opD C n i f ⟨dst, .indexAddr t x y, ty, pos, af, g⟩ st = evOp C none ⟨dst, .indexAddr t x y, ty, pos, af, g⟩ st := (rfl)
theorem od_index (t : TypeId) (x y : Operand) : opD C n i f ⟨dst, .index t x y, ty, pos, af, g⟩ st = evOp C none ⟨dst, .index t x y, ty, pos, af, g⟩ st := (rfl)
theorem od_extract (x : Operand) (k : Nat) : opD C n i f ⟨dst, .extract x k, ty, pos, af, g⟩ st = evOp C none ⟨dst, .extract x k, ty, pos, af, g⟩ st := (rfl)
theorem od_call (c : Call) : opD C n i f ⟨dst, .call c, ty, pos, af, g⟩ st = condE (noHand C st c dst) (evOp C none ⟨dst, .call c, ty, pos, af, g⟩ st) none := by
  show (match noHand C st c dst with | true => evOp C none ⟨dst, .call c, ty, pos, af, g⟩ st | false => none) = _
  cases noHand C st c dst <;> rfl
theorem od_move (x : Operand) : opD C n i f ⟨dst, .move x, ty, pos, af, g⟩ st = bindV (evO C st ty x) fun v => condE (isTup v) none (some (st.put dst v)) := by
  show (match evO C st ty x with | some v => (match isTup v with | true => none | false => some (st.put dst v)) | none => none) = _
  unfold bindV
  rcases evO C st ty x with _ | v
  · rfl
  · cases h : isTup v <;> simp [h, condE]
theorem od_load (t : TypeId) (x : Operand) : opD C n i f ⟨dst, .load t x, ty, pos, af, g⟩ st = condE (f && !(allLt n (refsO st x))) none (evOp C none ⟨dst, .load t x, ty, pos, af, g⟩ st) := by
  show (match f && !(allLt n (refsO st x)) with | true => none | false => evOp C none ⟨dst, .load t x, ty, pos, af, g⟩ st) = _
  cases f && !(allLt n (refsO st x)) <;> rfl
theorem od_store (t : TypeId) (x y : Operand) : opD C n i f ⟨dst, .store t x y, ty, pos, af, g⟩ st = condE (f && !(allGe n (refsO st x))) none (evOp C none ⟨dst, .store t x y, ty, pos, af, g⟩ st) := by
  show (match f && !(allGe n (refsO st x)) with | true => none | false => evOp C none ⟨dst, .store t x y, ty, pos, af, g⟩ st) = _
  cases f && !(allGe n (refsO st x)) <;> rfl
theorem od_alloc (e : TypeId) : opD C n i f ⟨dst, .alloc e, ty, pos, af, g⟩ st = condE (getB st (n + i)).isSome none (evOp C (some (n + i)) ⟨dst, .alloc e, ty, pos, af, g⟩ (st.pad (n + i + 1))) := by
  show (match getB st (n + i) with | none => evOp C (some (n + i)) ⟨dst, .alloc e, ty, pos, af, g⟩ (st.pad (n + i + 1)) | some _ => none) = _
  cases getB st (n + i) <;> rfl
theorem od_box (e : TypeId) (x : Operand) : opD C n i f ⟨dst, .box e x, ty, pos, af, g⟩ st = condE (getB st (n + i)).isSome none (evOp C (some (n + i)) ⟨dst, .box e x, ty, pos, af, g⟩ (st.pad (n + i + 1))) := by
  show (match getB st (n + i) with | none => evOp C (some (n + i)) ⟨dst, .box e x, ty, pos, af, g⟩ (st.pad (n + i + 1)) | some _ => none) = _
  cases getB st (n + i) <;> rfl
theorem od_makeSlice (t : TypeId) (x y : Operand) : opD C n i f ⟨dst, .makeSlice t x y, ty, pos, af, g⟩ st = condE (getB st (n + i)).isSome none (evOp C (some (n + i)) ⟨dst, .makeSlice t x y, ty, pos, af, g⟩ (st.pad (n + i + 1))) := by
  show (match getB st (n + i) with | none => evOp C (some (n + i)) ⟨dst, .makeSlice t x y, ty, pos, af, g⟩ (st.pad (n + i + 1)) | some _ => none) = _
  cases getB st (n + i) <;> rfl
theorem od_buildSlice (t k : Nat) (ps : Array (Nat × Operand)) : opD C n i f ⟨dst, .buildSlice t k ps, ty, pos, af, g⟩ st = bindV (litCells C st t k ps.toList) fun r => bindV (litV k r.1 r.2) fun d => some ((st.put dst (.d d)).own dst true) := by
  show (match litCells C st t k ps.toList with | some (cs, j) => (match litV k cs j with | some r => some ((st.put dst (.d r)).own dst true) | none => none) | none => none) = _
  unfold bindV
  rcases litCells C st t k ps.toList with _ | ⟨cs, j⟩
  · rfl
  · simp only; cases litV k cs j <;> rfl
end

theorem noHand_builtin (C : Ctx) (st : St) (b : Builtin) (as : Array Operand) (ts : Array TypeId) (dst : Option Nat) : noHand C st { callee := .builtin b, args := as, argTypes := ts } dst = true := (rfl)
theorem noHand_func (C : Ctx) (st : St) (f : FuncId) (as : Array Operand) (ts : Array TypeId) (dst : Option Nat) : noHand C st { callee := .value (.func f), args := as, argTypes := ts } dst = !(byPtr C st as.toList [] dst) := (rfl)
theorem noHand_tmp (C : Ctx) (st : St) (t : Nat) (as : Array Operand) (ts : Array TypeId) (dst : Option Nat) : noHand C st { callee := .value (.tmp t), args := as, argTypes := ts } dst =
    (match calleeOf st (.tmp t) with | some p => !(byPtr C st as.toList p.2 dst) | none => true) := by
  simp only [noHand]
  cases calleeOf st (.tmp t) <;> rfl
theorem pad_mk (l : List (Nat × V)) (bs : List (Option Blk)) (os : List Pl) (m : Nat) : St.pad ⟨l, bs, os⟩ m = ⟨l, bs ++ List.replicate (m - bs.length) none, os⟩ := (rfl)
section
variable (k : Nat) (cs : List V) (s b : Nat) (z : List D) (c q : Bool)
theorem litV_int (ik : IntKind) : litV k cs ⟨.int ik, s, b, z, c, q⟩ = bindV (allI ik cs) fun ns => some (.nums ik false ns) := by
  unfold litV bindV; simp only; cases allI ik cs <;> rfl
theorem litV_bool : litV k cs ⟨.bool, s, b, z, c, q⟩ = bindV (allD cs) fun ds => some (.sl s false (chunk s k ds)) := by
  unfold litV bindV; simp only; cases allD cs <;> rfl
theorem litV_str : litV k cs ⟨.str, s, b, z, c, q⟩ = bindV (allD cs) fun ds => some (.sl s false (chunk s k ds)) := by
  unfold litV bindV; simp only; cases allD cs <;> rfl
theorem litV_ptr : litV k cs ⟨.ptr, s, b, z, c, q⟩ = bindV (allD cs) fun ds => some (.sl s false (chunk s k ds)) := by
  unfold litV bindV; simp only; cases allD cs <;> rfl
theorem litV_slice (e : Nat) : litV k cs ⟨.slice e, s, b, z, c, q⟩ = bindV (allD cs) fun ds => some (.sl s false (chunk s k ds)) := by
  unfold litV bindV; simp only; cases allD cs <;> rfl
theorem litV_struct (fs : List (Nat × Nat)) : litV k cs ⟨.struct fs, s, b, z, c, q⟩ = bindV (allD cs) fun ds => some (.sl s false (chunk s k ds)) := by
  unfold litV bindV; simp only; cases allD cs <;> rfl
theorem litV_arr (m e : Nat) : litV k cs ⟨.arr m e, s, b, z, c, q⟩ = bindV (allD cs) fun ds => some (.sl s false (chunk s k ds)) := by
  unfold litV bindV; simp only; cases allD cs <;> rfl
theorem litV_iface : litV k cs ⟨.iface, s, b, z, c, q⟩ = bindV (allD cs) fun ds => some (.sl s false (chunk s k ds)) := by
  unfold litV bindV; simp only; cases allD cs <;> rfl
end
theorem refsO_tmp (st : St) (t : Nat) : refsO st (.tmp t) = (match look t st.tmps with | some v => refs v | none => []) := (rfl)
theorem allLt_nil (n : Nat) : allLt n [] = true := (rfl)
theorem allGe_nil (n : Nat) : allGe n [] = true := (rfl)
theorem allLt_cons (n i : Nat) (l : List Nat) : allLt n (i :: l) = condE (decide (i < n)) (allLt n l) false := by
  simp only [allLt, nblt_dec]; rfl
theorem allGe_cons (n i : Nat) (l : List Nat) : allGe n (i :: l) = condE (decide (n ≤ i)) (allGe n l) false := by
  simp only [allGe, nble_dec]; rfl

attribute [simp ↓] ev_regionD evD_nil evD_cons evD_guard
attribute [simp] nolin_tt nolin_glob nolin_call nolin_lin od_assign od_pick od_build od_nilCheck od_binOp od_unOp od_convert od_makeInterface od_makeFunc od_slice od_fieldAddr od_field od_indexAddr od_index
  noHand_builtin noHand_func noHand_tmp od_extract od_call od_move od_load od_store od_alloc od_box od_makeSlice od_buildSlice pad_mk litV_int litV_bool litV_str litV_ptr litV_slice litV_struct litV_arr litV_iface refsO_tmp allLt_nil allGe_nil allLt_cons allGe_cons
end Go.VM

set_option linter.unusedSimpArgs false
set_option linter.unusedVariables false
namespace Go.VM
open Go

/-- The same, but for its calls. -/
def Ctx.with (C : Ctx) (g : FuncId → List V → Option Ret) (gp : FuncId → List V → List (Option Blk) → List Pl → Option Hand) : Ctx := { C with call := g, callP := gp }

variable {C : Ctx} {g : FuncId → List V → Option Ret} {gp : FuncId → List V → List (Option Blk) → List Pl → Option Hand} {s s1 : St}

theorem wEvO (st : St) (t : Nat) (x : Operand) : evO (C.with g gp) st t x = evO C st t x := by cases x <;> rfl
theorem wAsD (st : St) (v : V) : asD (C.with g gp) st v = asD C st v := by cases v <;> rfl
theorem wArgV (st : St) (v : V) : argV (C.with g gp) st v = argV C st v := by cases v <;> rfl
theorem wArgs : ∀ (xs : List Operand) (ts : List Nat) (st : St), evArgs (C.with g gp) st xs ts = evArgs C st xs ts
  | [], _, _ => rfl
  | x :: xs, ts, st => by
    simp only [evArgs, wEvO]
    cases evO C st (ts.headD 0) x with
    | none => rfl
    | some v =>
      simp only [wArgV]
      cases argV C st v with
      | none => rfl
      | some r => obtain ⟨u, s'⟩ := r; simp only [wArgs xs]
theorem wArgP (raw : Bool) (st : St) (v : V) : argP (C.with g gp) raw st v = argP C raw st v := by
  cases v with
  | mu i o l c s => cases raw <;> simp only [argP, wArgV]
  | _ => simp only [argP, wArgV]
theorem wArgsP (raw : Bool) : ∀ (xs : List Operand) (ts : List Nat) (st : St), evArgsP (C.with g gp) raw st xs ts = evArgsP C raw st xs ts
  | [], _, _ => rfl
  | x :: xs, ts, st => by
    simp only [evArgsP, wEvO]
    cases evO C st (ts.headD 0) x with
    | none => rfl
    | some v =>
      simp only [wArgP]
      cases argP C raw st v with
      | none => rfl
      | some r => obtain ⟨u, s'⟩ := r; simp only [wArgsP raw xs]
theorem wParts (st : St) (pl : Nat → Option (Nat × Nat)) : ∀ l : List (Nat × Operand), partsAt (C.with g gp) st pl l = partsAt C st pl l
  | [] => rfl
  | (i, x) :: l => by
    simp only [partsAt, wEvO, wParts st pl l]
    rfl
theorem wBuild (st : St) (t : Nat) (l : List (Nat × Operand)) : evBuild (C.with g gp) st t l = evBuild C st t l := by
  simp only [evBuild, wParts]; rfl
theorem wLit (st : St) (t n : Nat) (l : List (Nat × Operand)) : litCells (C.with g gp) st t n l = litCells C st t n l := by
  simp only [litCells, wParts]; rfl
theorem wCaps (st : St) : ∀ l : List Operand, evCaps (C.with g gp) st l = evCaps C st l
  | [] => rfl
  | x :: l => by simp only [evCaps, wEvO, wCaps st l]
theorem wBnd (st : St) (x : Option Operand) (d : Int) : bnd (C.with g gp) st x d = bnd C st x d := by
  cases x with
  | none => rfl
  | some o => simp only [bnd, wEvO]
theorem wLoad (st : St) (t : Nat) (p : V) : evLoad (C.with g gp) st t p = evLoad C st t p := rfl
theorem wStore (st : St) (t : Nat) (p v : V) : evStore (C.with g gp) st t p v = evStore C st t p v := rfl
theorem wConv (st : St) (s d : Nat) (v : V) : evConv (C.with g gp) st s d v = evConv C st s d v := rfl
theorem wSlice (st : St) (t : Nat) (x : V) (lo : Int) (hi mx : Option Int) : evSlice (C.with g gp) st t x lo hi mx = evSlice C st t x lo hi mx := rfl
theorem wFA (s f : Nat) (p : V) : evFieldAddr (C.with g gp) s f p = evFieldAddr C s f p := rfl
theorem wF (s f : Nat) (p : V) : evField (C.with g gp) s f p = evField C s f p := rfl
theorem wIA (t : Nat) (p : V) (i : Int) : evIndexAddr (C.with g gp) t p i = evIndexAddr C t p i := rfl
theorem wI (t : Nat) (p : V) (i : Int) : evIndex (C.with g gp) t p i = evIndex C t p i := rfl
theorem wMake (st : St) (slot : Option Nat) (t : Nat) (n : Int) : evMake (C.with g gp) st slot t n = evMake C st slot t n := rfl
theorem wBin (op : BinOp) (t : Nat) (ox oy : Operand) (x y : V) : evBin (C.with g gp) op t ox oy x y = evBin C op t ox oy x y := rfl
theorem wBuiltin (st : St) (dst : Option Nat) (b : Builtin) (as : List Operand) (ts : List Nat) : evBuiltin (C.with g gp) st dst b as ts = evBuiltin C st dst b as ts := by
  unfold evBuiltin
  simp only [wEvO]
  rfl
theorem wLin (d : Option Nat) : inLin (C.with g gp) d = inLin C d := rfl

theorem mono_op (hg : (∀ f a r, C.call f a = some r → g f a = some r) ∧ ∀ f a bs bo r, C.callP f a bs bo = some r → gp f a bs bo = some r) {slot : Option Nat} {o : Oper} (h : evOp C slot o s = some s1) : evOp (C.with g gp) slot o s = some s1 := by
  have same : (∀ c, o.op ≠ .call c) → evOp (C.with g gp) slot o s = evOp C slot o s := by
    intro hne
    cases hop : o.op with
    | call c => exact absurd hop (hne c)
    | makeFunc f a b => cases f <;> simp only [evOp, hop, wCaps] <;> rfl
    | _ => simp only [evOp, hop, wEvO, wBuild, wLit, wCaps, wBnd, wLoad, wStore, wConv, wSlice, wFA, wF, wIA, wI, wMake, wBin, wLin, wAsD] <;> rfl
  cases hop : o.op with
  | call c =>
    simp only [evOp, hop] at h ⊢
    cases hc : c.callee with
    | builtin b => rw [hc] at h; simp only [wBuiltin] at h ⊢; exact h
    | invoke r m => rw [hc] at h; cases h
    | value f =>
      rw [hc] at h
      simp only [wArgs] at h ⊢
      split at h
      · rename_i q caps hq
        try simp only [hq]
        have eb : byPtr (C.with g gp) s c.args.toList caps o.dst = byPtr C s c.args.toList caps o.dst := rfl
        rw [eb]
        split at h
        · rename_i hbp
          try simp only
          split at h
          · rename_i vs st hv
            try simp only [hv]
            simp only [callWith] at h ⊢
            split at h
            · rename_i e1
              try simp only [e1]
              split at h
              · rename_i r hr
                have := hg.1 _ _ _ hr
                simp only [Ctx.with, this]
                exact h
              · cases h
            · cases h
          · cases h
        · rename_i hbp
          try simp only
          have er : rawHint (C.with g gp) o.dst = rawHint C o.dst := rfl
          rw [er, wArgsP]
          split at h
          · rename_i vs st hv
            try simp only [hv]
            simp only [handOver, handOn] at h ⊢
            split at h
            · rename_i xs bs e1 e2 e3
              try simp only [e1, e2, e3]
              split at h
              · rename_i r hr
                have := hg.2 _ _ _ _ _ hr
                simp only [Ctx.with, this]
                exact h
              · cases h
            · cases h
          · cases h
      · cases h
  | _ => rw [same (by intro c; rw [hop]; intro h; cases h)]; exact h

theorem mono_ops (hg : (∀ f a r, C.call f a = some r → g f a = some r) ∧ ∀ f a bs bo r, C.callP f a bs bo = some r → gp f a bs bo = some r) {ops : Array Oper} : ∀ {l : List Oper} {s s1 : St}, evOps C ops l s = some s1 → evOps (C.with g gp) ops l s = some s1
  | [], s, s1, h => h
  | o :: l, s, s1, h => by
    simp only [evOps] at h ⊢
    split at h
    · split at h
      · rename_i h2
        simp only [mono_op hg h2]
        exact mono_ops hg h
      · cases h
    · exact mono_ops hg h
    · cases h

theorem mono_opD (hg : (∀ f a r, C.call f a = some r → g f a = some r) ∧ ∀ f a bs bo r, C.callP f a bs bo = some r → gp f a bs bo = some r) {n i : Nat} {fl : Bool} {o : Oper} (h : opD C n i fl o s = some s1) : opD (C.with g gp) n i fl o s = some s1 := by
  cases hop : o.op with
  | alloc e =>
    simp only [opD, hop] at h ⊢
    split at h
    · exact mono_op hg h
    · cases h
  | box e x =>
    simp only [opD, hop] at h ⊢
    split at h
    · exact mono_op hg h
    · cases h
  | makeSlice t l c =>
    simp only [opD, hop] at h ⊢
    split at h
    · exact mono_op hg h
    · cases h
  | move x => simp only [opD, hop, wEvO] at h ⊢; exact h
  | buildSlice t k ps => simp only [opD, hop, wLit] at h ⊢; exact h
  | load t x =>
    simp only [opD, hop] at h ⊢
    split at h
    · cases h
    · exact mono_op hg h
  | store t x y =>
    simp only [opD, hop] at h ⊢
    split at h
    · cases h
    · exact mono_op hg h
  | call c =>
    simp only [opD, hop] at h ⊢
    have eb : noHand (C.with g gp) s c o.dst = noHand C s c o.dst := rfl
    rw [eb]
    split at h
    · exact mono_op hg h
    · cases h
  | _ => simp only [opD, hop] at h ⊢; exact mono_op hg h

theorem mono_evD (hg : (∀ f a r, C.call f a = some r → g f a = some r) ∧ ∀ f a bs bo r, C.callP f a bs bo = some r → gp f a bs bo = some r) {ops : Array Oper} {n : Nat} {fl : List Nat} : ∀ {l : List Oper} {i : Nat} {s s1 : St}, evD C ops n fl i l s = some s1 → evD (C.with g gp) ops n fl i l s = some s1
  | [], i, s, s1, h => h
  | o :: l, i, s, s1, h => by
    simp only [evD] at h ⊢
    split at h
    · split at h
      · rename_i h2
        simp only [mono_opD hg h2]
        exact mono_evD hg h
      · cases h
    · exact mono_evD hg h
    · cases h

theorem mono_iter {f f' : St → Option (Ex × St)} (hf : ∀ s r, f s = some r → f' s = some r) {n : Nat} {live out : List Nat} : ∀ {k k' : Nat}, k ≤ k' → ∀ {s : St} {r : Ex × St}, iter f n live out k s = some r → iter f' n live out k' s = some r
  | 0, _, _, s, r, h => by simp [iter] at h
  | k + 1, k', hk, s, r, h => by
    obtain ⟨k', rfl⟩ : ∃ j, k' = j + 1 := ⟨k' - 1, by omega⟩
    simp only [iter] at h ⊢
    split at h
    · rename_i e
      simp only [hf _ _ e]
      exact mono_iter hf (by omega) h
    · rename_i e st hne e1
      simp only [hf _ _ e1]
      cases e with
      | normal => exact absurd rfl hne
      | _ => exact h
    · cases h

theorem mono_ev (hg : (∀ f a r, C.call f a = some r → g f a = some r) ∧ ∀ f a bs bo r, C.callP f a bs bo = some r → gp f a bs bo = some r) {fuel fuel' : Nat} (hfu : fuel ≤ fuel') : ∀ {c : Code} {s : St} {r : Ex × St}, ev C fuel c s = some r → ev (C.with g gp) fuel' c s = some r := by
  intro c
  induction c with
  | region id ops draw =>
    intro s r h
    cases draw with
    | false =>
      simp only [ev] at h ⊢
      split at h
      · rename_i e; simp only [mono_ops hg e]; exact h
      · cases h
    | true =>
      simp only [ev] at h ⊢
      split at h
      · rename_i st e
        have : evD (C.with g gp).nolin ops s.blocks.length ((C.with g gp).live (id + 200000)) 0 ops.toList s = some st := mono_evD (C := C.nolin) hg e
        simp only [this]; exact h
      · cases h
  | seq a b iha ihb =>
    intro s r h
    simp only [ev] at h ⊢
    split at h
    · rename_i e; simp only [iha e]; exact ihb h
    · rename_i hne
      rw [iha h]
      obtain ⟨e, st⟩ := r
      cases e with
      | normal => exact absurd h (hne st)
      | _ => rfl
  | cond c a b iha ihb =>
    intro s r h
    simp only [ev, wEvO] at h ⊢
    split at h
    · rename_i b e
      try simp only [e]
      cases b with
      | true => exact iha h
      | false => exact ihb h
    · cases h
  | block id c ih =>
    intro s r h
    simp only [ev] at h ⊢
    split at h
    · rename_i j st e
      simp only [ih e]; exact h
    · rename_i hne
      rw [ih h]
      obtain ⟨e, st⟩ := r
      cases e with
      | exit j => exact absurd h (hne j st)
      | _ => rfl
  | loop c ih =>
    intro s r h
    simp only [ev] at h ⊢
    exact mono_iter (fun s r h => ih h) hfu h
  | scope c ih => intro s r h; simp only [ev] at h ⊢; exact ih h
  | _ => intro s r h; exact h

theorem wRes : ∀ (rs : List ResultVar) (st : St), resV (C.with g gp) st rs = resV C st rs
  | [], st => rfl
  | r :: rs, st => by
    simp only [resV, wLoad, wArgV, wRes rs]

theorem mono_finish {rs : List ResultVar} {x : Option (Ex × St)} : finish (C.with g gp) rs x = finish C rs x := by
  unfold finish
  simp only [wRes]

theorem wResP1 (k : Nat) (st : St) (v : V) : resP1 (C.with g gp) k st v = resP1 C k st v := by
  cases v <;> simp only [resP1, wArgV]
theorem wResP (k : Nat) : ∀ (rs : List ResultVar) (st : St), resVP (C.with g gp) k st rs = resVP C k st rs
  | [], st => rfl
  | r :: rs, st => by
    simp only [resVP, wLoad, wResP1, wResP k rs]

theorem mono_finishP {k : Nat} {rs : List ResultVar} {x : Option (Ex × St)} : finishP (C.with g gp) k rs x = finishP C k rs x := by
  unfold finishP
  simp only [wResP]

/-- More fuel, and more depth. -/
theorem callB_mono {E : Env} {fuel fuel' : Nat} (hfu : fuel ≤ fuel') : ∀ {n n' : Nat}, n ≤ n' → (∀ f args r, callN E fuel n f args = some r → callN E fuel' n' f args = some r) ∧
    ∀ f args bs bo r, callP E fuel n f args bs bo = some r → callP E fuel' n' f args bs bo = some r
  | 0, _, _ => ⟨fun f args r h => by simp [callN_zero] at h, fun f args bs bo r h => by simp [callP_zero] at h⟩
  | n + 1, n', hn => by
    obtain ⟨n', rfl⟩ : ∃ j, n' = j + 1 := ⟨n' - 1, by omega⟩
    have IH := callB_mono (E := E) hfu (n := n) (n' := n') (by omega)
    have hw : ∀ f, E.ctx f (callN E fuel' n') (callP E fuel' n') = (E.ctx f (callN E fuel n) (callP E fuel n)).with (callN E fuel' n') (callP E fuel' n') := fun f => rfl
    refine ⟨fun f args r h => ?_, fun f args bs bo r h => ?_⟩
    · rw [callN_succ] at h ⊢
      split at h
      · exact h
      · rename_i e
        try simp only [e]
        split at h
        · rename_i fn e1
          try simp only [e1]
          split at h
          · rename_i c e2
            try simp only [e2]
            split at h
            · rename_i e3
              try simp only [e3]
              unfold run at h ⊢
              rw [hw, mono_finish]
              cases h1 : ev (E.ctx f (callN E fuel n) (callP E fuel n)) fuel c { tmps := argsT 0 args, blocks := [], owns := [] } with
              | none => rw [h1] at h; simp [finish] at h
              | some x =>
                rw [h1] at h
                rw [mono_ev (C := E.ctx f (callN E fuel n) (callP E fuel n)) (g := callN E fuel' n') (gp := callP E fuel' n') IH hfu h1]
                exact h
            · cases h
          · cases h
        · cases h
    · rw [callP_succ] at h ⊢
      split at h
      · exact h
      · rename_i e
        try simp only [e]
        split at h
        · rename_i fn e1
          try simp only [e1]
          split at h
          · rename_i c e2
            try simp only [e2]
            split at h
            · rename_i e3
              try simp only [e3]
              unfold runP at h ⊢
              rw [hw, mono_finishP]
              cases h1 : ev (E.ctx f (callN E fuel n) (callP E fuel n)) fuel c { tmps := argsT 0 args, blocks := bs, owns := bo } with
              | none => rw [h1] at h; simp [finishP] at h
              | some x =>
                rw [h1] at h
                rw [mono_ev (C := E.ctx f (callN E fuel n) (callP E fuel n)) (g := callN E fuel' n') (gp := callP E fuel' n') IH hfu h1]
                exact h
            · cases h
          · cases h
        · cases h

theorem callN_mono {E : Env} {fuel fuel' : Nat} (hfu : fuel ≤ fuel') {n n' : Nat} {f : FuncId} {args : List V} {r : Ret} (hn : n ≤ n') (h : callN E fuel n f args = some r) : callN E fuel' n' f args = some r :=
  (callB_mono hfu hn).1 f args r h
theorem callP_mono {E : Env} {fuel fuel' : Nat} (hfu : fuel ≤ fuel') {n n' : Nat} {f : FuncId} {args : List V} {bs : List (Option Blk)} {bo : List Pl} {r : Hand} (hn : n ≤ n') (h : callP E fuel n f args bs bo = some r) :
    callP E fuel' n' f args bs bo = some r :=
  (callB_mono hfu hn).2 f args bs bo r h

end Go.VM

set_option linter.unusedSimpArgs false
set_option linter.unusedVariables false
namespace Go.VM
open Go

section
variable (C : Ctx) (slot : Option Nat) (dst : Option Tmp) (ty : TypeId) (pos : String) (af : Array Edge) (g : Option (Nat × Bool)) (st : St)

theorem bnd_some (x : Operand) : bnd C st (some x) 0 = asI (evO C st 0 x) := by
  show (match evO C st 0 x with | some (.d (.int _ n)) => some n | _ => none) = _
  rcases evO C st 0 x with _ | u
  · rfl
  · cases u with
    | d d => cases d <;> rfl
    | _ => rfl

theorem op_slice2 (t : TypeId) (x hi : Operand) : evOp C slot ⟨dst, .slice t x none (some hi) none, ty, pos, af, g⟩ st = bindV (evO C st t x) fun v => bindV (asI (evO C st 0 hi)) fun h => bindV (evSlice C st t v 0 (some h) none) fun r => some ((st.put dst r.1).own dst r.2) := by
  show (match evO C st t x, (some 0 : Option Int) with
    | some v, some l => (match bnd C st (some hi) 0 with
        | some h => (match evSlice C st t v l (some h) none with
          | some (r, own) => some ((st.put dst r).own dst own)
          | none => none)
        | none => none)
    | _, _ => none) = _
  rcases evO C st t x with _ | v
  · rfl
  · simp only [bindV_some, bnd_some]
    rcases asI (evO C st 0 hi) with _ | h
    · rfl
    · simp only [bindV_some]
      rcases evSlice C st t v 0 (some h) none with _ | ⟨r, own⟩ <;> rfl

theorem op_slice12 (t : TypeId) (x lo hi : Operand) : evOp C slot ⟨dst, .slice t x (some lo) (some hi) none, ty, pos, af, g⟩ st = bindV (evO C st t x) fun v => bindV (asI (evO C st 0 lo)) fun l => bindV (asI (evO C st 0 hi)) fun h => bindV (evSlice C st t v l (some h) none) fun r => some ((st.put dst r.1).own dst r.2) := by
  show (match evO C st t x, bnd C st (some lo) 0 with
    | some v, some l => (match bnd C st (some hi) 0 with
        | some h => (match evSlice C st t v l (some h) none with
          | some (r, own) => some ((st.put dst r).own dst own)
          | none => none)
        | none => none)
    | _, _ => none) = _
  rcases evO C st t x with _ | v
  · rfl
  · simp only [bindV_some, bnd_some]
    rcases asI (evO C st 0 lo) with _ | l
    · rfl
    · simp only [bindV_some]
      rcases asI (evO C st 0 hi) with _ | h
      · rfl
      · simp only [bindV_some]
        rcases evSlice C st t v l (some h) none with _ | ⟨r, own⟩ <;> rfl

theorem op_slice0 (t : TypeId) (x : Operand) : evOp C slot ⟨dst, .slice t x none none none, ty, pos, af, g⟩ st = bindV (evO C st t x) fun v => bindV (evSlice C st t v 0 none none) fun r => some ((st.put dst r.1).own dst r.2) := by
  show (match evO C st t x, (some 0 : Option Int) with
    | some v, some l => (match evSlice C st t v l none none with
          | some (r, own) => some ((st.put dst r).own dst own)
          | none => none)
    | _, _ => none) = _
  rcases evO C st t x with _ | v
  · rfl
  · simp only [bindV_some]
    rcases evSlice C st t v 0 none none with _ | ⟨r, own⟩ <;> rfl
end

theorem slice_nums2 (C : Ctx) (st : St) (t : Nat) (k : IntKind) (nl : Bool) (xs : List Int) (lo hi : Int) : evSlice C st t (.d (.nums k nl xs)) lo (some hi) none =
    bindV (C.tt t) fun i => bindV (elemK i.k) fun e => bindV (C.tt e) fun j => if j.size = 1 ∧ 0 ≤ lo ∧ lo ≤ hi ∧ hi ≤ xs.length then some (.d (.nums k nl ((xs.take hi.toNat).drop lo.toNat)), false) else none := by
  unfold evSlice
  rcases C.tt t with _ | ⟨tk, s1, b1, z1, c1, q1⟩
  · rfl
  · cases tk with
    | slice e =>
      show (match C.tt e with | some j => _ | none => none) = bindV (C.tt e) _
      rcases C.tt e with _ | j
      · rfl
      · simp only [bindV_some, Option.getD_none, Option.getD_some, Option.isSome_none, Bool.false_and]
        by_cases h1 : j.size = 1
        · by_cases h2 : 0 ≤ lo <;> by_cases h3 : lo ≤ hi <;> by_cases h4 : hi ≤ xs.length <;> simp [h1, h2, h3, h4]
        · simp [nbeq_false h1, h1]
    | _ => rfl

theorem slice_sl1 (C : Ctx) (st : St) (t : Nat) (sz : Nat) (nl : Bool) (xs : List (List D)) (lo : Int) : evSlice C st t (.d (.sl sz nl xs)) lo none none =
    bindV (C.tt t) fun i => bindV (elemK i.k) fun e => bindV (C.tt e) fun j => if j.size = sz ∧ 0 ≤ lo ∧ lo ≤ xs.length then some (.d (.sl sz nl (xs.drop lo.toNat)), false) else none := by
  unfold evSlice
  rcases C.tt t with _ | ⟨tk, s1, b1, z1, c1, q1⟩
  · rfl
  · cases tk with
    | slice e =>
      show (match C.tt e with | some j => _ | none => none) = bindV (C.tt e) _
      rcases C.tt e with _ | j
      · rfl
      · simp only [bindV_some, Option.getD_none, Option.getD_some, Option.isSome_none, Bool.false_and, Int.toNat_natCast, List.take_length]
        by_cases h1 : j.size = sz
        · subst h1; by_cases h2 : 0 ≤ lo <;> by_cases h3 : lo ≤ xs.length <;> simp [h2, h3]
        · simp [nbeq_false h1, h1]
    | _ => rfl

theorem slice_sl2 (C : Ctx) (st : St) (t : Nat) (sz : Nat) (nl : Bool) (xs : List (List D)) (lo hi : Int) : evSlice C st t (.d (.sl sz nl xs)) lo (some hi) none =
    bindV (C.tt t) fun i => bindV (elemK i.k) fun e => bindV (C.tt e) fun j => if j.size = sz ∧ 0 ≤ lo ∧ lo ≤ hi ∧ hi ≤ xs.length then some (.d (.sl sz nl ((xs.take hi.toNat).drop lo.toNat)), false) else none := by
  unfold evSlice
  rcases C.tt t with _ | ⟨tk, s1, b1, z1, c1, q1⟩
  · rfl
  · cases tk with
    | slice e =>
      show (match C.tt e with | some j => _ | none => none) = bindV (C.tt e) _
      rcases C.tt e with _ | j
      · rfl
      · simp only [bindV_some, Option.getD_none, Option.getD_some, Option.isSome_none, Bool.false_and]
        by_cases h1 : j.size = sz
        · subst h1; by_cases h2 : 0 ≤ lo <;> by_cases h3 : lo ≤ hi <;> by_cases h4 : hi ≤ xs.length <;> simp [h2, h3, h4]
        · simp [nbeq_false h1, h1]
    | _ => rfl
attribute [simp] op_slice2 op_slice12 op_slice0 slice_nums2 slice_sl1 slice_sl2
end Go.VM

set_option linter.unusedSimpArgs false
set_option linter.unusedVariables false
namespace Go.VM
open Go

theorem append_sl (C : Ctx) (st : St) (t : Nat) (own : Bool) (sz : Nat) (nl : Bool) (xs : List (List D)) (s : V) : evAppend C st t own (.d (.sl sz nl xs)) s =
    bindV (C.tt t) fun i => bindV (elemK i.k) fun e => bindV (C.tt e) fun j => condE ((own || nl) && decide (j.size = sz) && decide (0 < sz)) (bindV (srcSl st sz s) fun ys =>
      if (xs.length + ys.length) * j.bytes ≤ room ∧ xs.length + ys.length ≤ room then some (.sl sz (nl && ys.isEmpty) (xs ++ ys)) else none) none := by
  unfold evAppend
  rcases C.tt t with _ | ⟨tk, s1, b1, z1, c1, q1⟩
  · rfl
  · cases tk with
    | slice e =>
      show (match C.tt e with | some j => _ | none => none) = bindV (C.tt e) _
      rcases C.tt e with _ | j
      · rfl
      · show (bif (own || nl) && Nat.beq j.size sz && Nat.blt 0 sz then _ else none) = condE ((own || nl) && decide (j.size = sz) && decide (0 < sz)) _ none
        rw [← nbeq_dec, ← nblt_dec]
        unfold condE
        congr 1
        show (match srcSl st sz s with | some ys => _ | none => none) = bindV (srcSl st sz s) _
        rcases srcSl st sz s with _ | ys
        · rfl
        · show (bif decide ((xs.length + ys.length) * j.bytes ≤ room) && decide (xs.length + ys.length ≤ room) then _ else none) = if _ then _ else none
          by_cases h1 : (xs.length + ys.length) * j.bytes ≤ room
          · by_cases h2 : xs.length + ys.length ≤ room
            · simp [-room, h1, h2]
            · simp [-room, h1, h2]
          · simp [-room, h1]
    | _ => rfl
theorem srcSl_sl (st : St) (sz : Nat) (nl : Bool) (xs : List (List D)) : srcSl st sz (.d (.sl sz nl xs)) = some xs := by
  show (bif Nat.beq sz sz then some xs else none) = some xs
  simp
theorem argV_agg (C : Ctx) (st : St) (cs : List V) (h : refsL cs = []) : argV C st (.agg cs) = some (.agg cs, st) := by
  show (match refsL cs with | [] => some (V.agg cs, st) | _ => none) = _
  rw [h]
theorem refs_any : refs .any = [] := (rfl)
theorem refs_agg (cs : List V) : refs (.agg cs) = refsL cs := (rfl)
theorem callee_tmp (st : St) (t : Nat) : calleeOf st (.tmp t) = (match look t st.tmps with | some (.fn g cs) => some (g, cs) | _ => none) := (rfl)
theorem op_callT (C : Ctx) (slot : Option Nat) (dst : Option Tmp) (ty : TypeId) (pos : String) (af : Array Edge) (g : Option (Nat × Bool)) (st : St) (t : Nat) (as : Array Operand) (ts : Array TypeId) :
    evOp C slot ⟨dst, .call { callee := .value (.tmp t), args := as, argTypes := ts }, ty, pos, af, g⟩ st =
      bindV (calleeOf st (.tmp t)) fun f => condE (byPtr C st as.toList f.2 dst) (bindV (evArgsP C (rawHint C dst) st as.toList ts.toList) fun r => handOver C r.2 f.1 (r.1 ++ f.2) dst)
        (bindV (evArgs C st as.toList ts.toList) fun r => callWith C r.2 f.1 (r.1 ++ f.2) dst) := by
  show (match calleeOf st (.tmp t) with
    | some (g, caps) => (match byPtr C st as.toList caps dst with
        | false => (match evArgs C st as.toList ts.toList with
          | some (vs, st) => callWith C st g (vs ++ caps) dst
          | none => none)
        | true => (match evArgsP C (rawHint C dst) st as.toList ts.toList with
          | some (vs, st) => handOver C st g (vs ++ caps) dst
          | none => none))
    | none => none) = _
  rcases calleeOf st (.tmp t) with _ | ⟨f, caps⟩
  · rfl
  · simp only [bindV_some]
    unfold bindV condE
    cases byPtr C st as.toList caps dst with
    | false => rcases evArgs C st as.toList ts.toList with _ | ⟨vs, s⟩ <;> rfl
    | true => rcases evArgsP C (rawHint C dst) st as.toList ts.toList with _ | ⟨vs, s⟩ <;> rfl
theorem op_box (C : Ctx) (slot : Option Nat) (dst : Option Tmp) (ty : TypeId) (pos : String) (af : Array Edge) (g : Option (Nat × Bool)) (st : St) (e : TypeId) (x : Operand) :
    evOp C slot ⟨dst, .box e x, ty, pos, af, g⟩ st = bindV (evO C st e x) fun v => bindV (cellsV v) fun cs => some ((st.new slot (.cells false cs)).2.put dst (.ptr (st.new slot (.cells false cs)).1 0)) := by
  show (match evO C st e x with
    | some v => (match cellsV v with
      | some cs => some ((st.new slot (.cells false cs)).2.put dst (.ptr (st.new slot (.cells false cs)).1 0))
      | none => none)
    | none => none) = _
  rcases evO C st e x with _ | v
  · rfl
  · simp only [bindV_some]
    rcases cellsV v with _ | cs <;> rfl
theorem new_none (l : List (Nat × V)) (bs : List (Option Blk)) (os : List Pl) (B : Blk) : St.new ⟨l, bs, os⟩ none B = (bs.length, ⟨l, bs ++ [some B], os⟩) := (rfl)
theorem new_some (l : List (Nat × V)) (bs : List (Option Blk)) (os : List Pl) (i : Nat) (B : Blk) : St.new ⟨l, bs, os⟩ (some i) B = (i, ⟨l, bs.set i (some B), os⟩) := (rfl)
theorem getB_mk (l : List (Nat × V)) (bs : List (Option Blk)) (os : List Pl) (i : Nat) : getB ⟨l, bs, os⟩ i = (match bs[i]? with | some (some b) => some b | _ => none) := (rfl)
theorem mkAgg_eq (cs : List V) : mkAgg cs = (match allD cs with | some ds => .d (.agg ds) | none => .agg cs) := (rfl)
theorem ldB_cells (i : TI) (off : Nat) (fz : Bool) (cs : List V) : ldB i off (some (.cells fz cs)) = headV i (cs.drop off) := (rfl)
theorem ldB_ints (i : TI) (off : Nat) (fz : Bool) (k : IntKind) (xs : List Int) : ldB i off (some (.ints fz k xs)) = headI i k (xs.drop off) := (rfl)
/-- What a store makes of a state. -/
def stB (st : St) (b off : Nat) (new : List V) : Option Blk → Option St
  | some (.cells false cs) => if off + new.length ≤ cs.length then
      some { tmps := st.tmps, blocks := st.blocks.set b (some (.cells false (splice off new cs))), owns := dropPl (fun | .b j o => Nat.beq b j && Nat.ble off o && Nat.blt o (off + new.length) | _ => false) st.owns } else none
  | some (.ints false k xs) => bindV (allI k new) fun ns => if off + ns.length ≤ xs.length then some { tmps := st.tmps, blocks := st.blocks.set b (some (.ints false k (splice off ns xs))), owns := st.owns } else none
  | _ => none
theorem store_ptr (C : Ctx) (st : St) (t b off : Nat) (v : V) : evStore C st t (.ptr b off) v = bindV (C.tt t) fun i => bindV (cellsV v) fun new => condE (decide (new.length = i.size)) (stB st b off new (getB st b)) none := by
  unfold evStore
  rcases C.tt t with _ | i
  · rfl
  · rcases cellsV v with _ | new
    · rfl
    · simp only [bindV_some]
      rw [← nbeq_dec]
      cases Nat.beq new.length i.size with
      | false => rfl
      | true =>
        simp only [cond_true, condE_true]
        rcases getB st b with _ | B
        · rfl
        · cases B with
          | cells fz cs =>
            cases fz with
            | true => rfl
            | false =>
              simp only [stB]
              by_cases h : off + new.length ≤ cs.length
              · rw [if_pos h, show Nat.ble (off + new.length) cs.length = true from by simpa [Nat.ble_eq] using h]; rfl
              · rw [if_neg h]
                have : Nat.ble (off + new.length) cs.length = false := by
                  cases e : Nat.ble (off + new.length) cs.length with
                  | false => rfl
                  | true => exact absurd (by simpa [Nat.ble_eq] using e) h
                rw [this]; rfl
          | ints fz k xs =>
            cases fz with
            | true => rfl
            | false =>
              simp only [stB]
              rcases allI k new with _ | ns
              · rfl
              · simp only [bindV_some]
                by_cases h : off + ns.length ≤ xs.length
                · rw [if_pos h, show Nat.ble (off + ns.length) xs.length = true from by simpa [Nat.ble_eq] using h]; rfl
                · rw [if_neg h]
                  have : Nat.ble (off + ns.length) xs.length = false := by
                    cases e : Nat.ble (off + ns.length) xs.length with
                    | false => rfl
                    | true => exact absurd (by simpa [Nat.ble_eq] using e) h
                  rw [this]; rfl
def bldK (C : Ctx) (st : St) (i : TI) (ps : List (Nat × Operand)) : Option V :=
  match i.k with
  | .struct fs => bindV (partsAt C st (fun j => fs[j]?) ps) fun l => bindV (fillV (i.zero.map .d) l) fun cs => some (mkAgg cs)
  | .arr _ e => bindV (C.tt e) fun j => bindV (partsAt C st (fun n => some (n * j.size, e)) ps) fun l => bindV (fillV (i.zero.map .d) l) fun cs => some (mkAgg cs)
  | _ => none
theorem build_eq (C : Ctx) (st : St) (t : Nat) (ps : List (Nat × Operand)) : evBuild C st t ps = bindV (C.tt t) fun i => bldK C st i ps := by
  unfold evBuild
  rcases C.tt t with _ | ⟨k, s, b, z, c, q⟩
  · rfl
  · cases k with
    | struct fs =>
      simp only [bindV_some, bldK]
      rcases partsAt C st (fun j => fs[j]?) ps with _ | l
      · rfl
      · simp only [bindV_some]
        rcases fillV (z.map .d) l with _ | cs <;> rfl
    | arr n e =>
      simp only [bindV_some, bldK]
      rcases C.tt e with _ | j
      · rfl
      · simp only [bindV_some]
        rcases partsAt C st (fun n => some (n * j.size, e)) ps with _ | l
        · rfl
        · simp only [bindV_some]
          rcases fillV (z.map .d) l with _ | cs <;> rfl
    | _ => rfl
theorem bldK_struct (C : Ctx) (st : St) (ps : List (Nat × Operand)) (fs : List (Nat × Nat)) (s b : Nat) (z : List D) (c q : Bool) :
    bldK C st ⟨.struct fs, s, b, z, c, q⟩ ps = bindV (partsAt C st (fun j => fs[j]?) ps) fun l => bindV (fillV (z.map .d) l) fun cs => some (mkAgg cs) := (rfl)
theorem bldK_arr (C : Ctx) (st : St) (ps : List (Nat × Operand)) (n e : Nat) (s b : Nat) (z : List D) (c q : Bool) :
    bldK C st ⟨.arr n e, s, b, z, c, q⟩ ps = bindV (C.tt e) fun j => bindV (partsAt C st (fun n => some (n * j.size, e)) ps) fun l => bindV (fillV (z.map .d) l) fun cs => some (mkAgg cs) := (rfl)
theorem resV_cell (C : Ctx) (st : St) (a t : Nat) (rs : List ResultVar) : resV C st (.cell a t :: rs) = bindV (bindV (look a st.tmps) fun p => evLoad C st t p) fun v => bindV (argV C st v) fun r => bindV (resV C r.2 rs) fun s => some (r.1 :: s.1, s.2) := by
  show (match (match look a st.tmps with | some p => evLoad C st t p | none => none) with
    | some v => (match argV C st v with
      | some (v, st) => (match resV C st rs with
        | some (vs, st) => some (v :: vs, st)
        | none => none)
      | none => none)
    | none => none) = _
  have e : (match look a st.tmps with | some p => evLoad C st t p | none => none) = bindV (look a st.tmps) fun p => evLoad C st t p := by
    rcases look a st.tmps with _ | p <;> rfl
  rw [e]
  rcases bindV (look a st.tmps) fun p => evLoad C st t p with _ | v
  · rfl
  · simp only [bindV_some]
    rcases argV C st v with _ | ⟨u, s⟩
    · rfl
    · simp only [bindV_some]
      rcases resV C s rs with _ | ⟨us, s2⟩ <;> rfl
def minS (st : St) (dst : Option Nat) (f : Int → Int → Int) (x y : Option V) : Option St :=
  match x, y with
  | some (.d (.int k a)), some (.d (.int k' c)) => match k == k' with
    | true => some (st.put dst (.d (.int k (f a c))))
    | false => none
  | _, _ => none
theorem b_min (C : Ctx) (st : St) (dst : Option Nat) (x y : Operand) (ts : List Nat) : evBuiltin C st dst .min [x, y] ts = minS st dst minI (evO C st 0 x) (evO C st 0 y) := (rfl)
theorem b_max (C : Ctx) (st : St) (dst : Option Nat) (x y : Operand) (ts : List Nat) : evBuiltin C st dst .max [x, y] ts = minS st dst maxI (evO C st 0 x) (evO C st 0 y) := (rfl)
theorem minS_int (st : St) (dst : Option Nat) (f : Int → Int → Int) (k : IntKind) (a c : Int) : minS st dst f (some (.d (.int k a))) (some (.d (.int k c))) = some (st.put dst (.d (.int k (f a c)))) := by
  show (match k == k with | true => _ | false => none) = _
  rw [kbeq]
attribute [simp] b_min b_max minS_int
theorem refs_ptr (i o : Nat) : refs (.ptr i o) = [i] := (rfl)
theorem refs_mu (i o l c s : Nat) : refs (.mu i o l c s) = [i] := (rfl)
attribute [simp] refs_ptr refs_mu build_eq bldK_struct bldK_arr resV_cell ldB_cells ldB_ints stB store_ptr new_none new_some getB_mk mkAgg_eq op_box append_sl srcSl_sl argV_agg refs_any refs_agg callee_tmp op_callT
end Go.VM

set_option linter.unusedSimpArgs false
set_option linter.unusedVariables false
namespace Go.VM
open Go Go.RowKit

mutual
/-- How many values and letters a reading holds. -/
def bulk {H : Type} : DataW H → Nat
  | .lit (.string bytes) => bytes.length + 1
  | .lit _ => 1
  | .nil => 1
  | .ptr d => bulk d + 1
  | .slice elems spare => bulkAll elems + bulkAll spare + 1
  | .agg parts => bulkAll parts + 1
  | .iface _ d => bulk d + 1
  | .map entries => bulkEntries entries + 1
  | .held _ => 1
def bulkAll {H : Type} : List (DataW H) → Nat
  | [] => 0
  | d :: r => bulk d + bulkAll r
def bulkEntries {H : Type} : List (Lit × DataW H) → Nat
  | [] => 0
  | x :: r => bulkEntry x + bulkEntries r
def bulkEntry {H : Type} : Lit × DataW H → Nat
  | (.string bytes, d) => bytes.length + bulk d + 1
  | (_, d) => bulk d + 1
end

theorem bulk_pos {H : Type} (d : DataW H) : 1 ≤ bulk d := by
  cases d with
  | lit l => cases l <;> simp [bulk]
  | _ => simp [bulk]
theorem bulkAll_len {H : Type} (l : List (DataW H)) : l.length ≤ bulkAll l := by
  induction l with
  | nil => simp [bulkAll]
  | cons x r ih => have := bulk_pos x; simp only [bulkAll, List.length_cons]; omega
theorem bulkAll_mem {H : Type} {d : DataW H} {l : List (DataW H)} (h : d ∈ l) : bulk d ≤ bulkAll l := by
  induction l with
  | nil => cases h
  | cons x r ih =>
    simp only [bulkAll]
    rcases List.mem_cons.1 h with e | e
    · subst e; omega
    · have := ih e; omega

/-- Cells that are a type's. -/
def Fit (tt : Nat → Option TI) (B : Nat) : Nat → Nat → List D → Prop
  | 0, _, _ => False
  | f + 1, t, ds => match tt t with
    | some i => match i.k with
      | .bool => ∃ b, ds = [.bool b]
      | .int k => ∃ n, ds = [.int k n] ∧ k.wrap n = n
      | .str => ∃ l, ds = [.str l] ∧ l.length ≤ B ∧ ∀ c ∈ l, 0 ≤ c ∧ c < 256
      | .slice e => match tt e with
        | some j => match j.k with
          | .int k => ∃ nl xs, ds = [.nums k nl xs] ∧ (nl = true → xs = []) ∧ xs.length ≤ B ∧ ∀ x ∈ xs, k.wrap x = x
          | _ => ∃ nl xs, ds = [.sl j.size nl xs] ∧ (nl = true → xs = []) ∧ xs.length ≤ B ∧ ∀ c ∈ xs, c.length = j.size ∧ Fit tt B f e c
        | none => False
      | .struct fs => ds.length = i.size ∧ ∀ p ∈ fs, ∃ j, tt p.2 = some j ∧ Fit tt B f p.2 ((ds.drop p.1).take j.size)
      | _ => False
    | none => False

def tiles (tt : Nat → Option TI) (size : Nat) : Nat → List (Nat × Nat) → Bool
  | off, [] => Nat.beq off size
  | off, (o, t) :: l => Nat.beq o off && (match tt t with
    | some j => tiles tt size (off + j.size) l
    | none => false)

/-- Types that lead to no others, and are of the plain kinds. -/
def closedB (tt : Nat → Option TI) (L : List Nat) : Bool := L.all fun t => match tt t with
  | some i => match i.k with
    | .bool => true
    | .int _ => true
    | .str => true
    | .slice e => hasNat e L && (match tt e with | some j => Nat.blt 0 j.size | none => false)
    | .struct fs => tiles tt i.size 0 fs && fs.all fun p => hasNat p.2 L
    | _ => false
  | none => false

theorem tiles_le {tt : Nat → Option TI} {size : Nat} : ∀ {l : List (Nat × Nat)} {off : Nat}, tiles tt size off l = true → off ≤ size ∧ ∀ p ∈ l, off ≤ p.1
  | [], off, h => by
    simp only [tiles] at h
    have := Nat.eq_of_beq_eq_true h
    exact ⟨by omega, by simp⟩
  | (o, t) :: l, off, h => by
    simp only [tiles, Bool.and_eq_true] at h
    have h1 := Nat.eq_of_beq_eq_true h.1
    have h2 := h.2
    split at h2
    · obtain ⟨g1, g2⟩ := tiles_le h2
      refine ⟨by omega, fun p hp => ?_⟩
      rcases List.mem_cons.1 hp with rfl | hp
      · simp only; omega
      · have := g2 p hp; omega
    · cases h2

theorem spot_of_cell {w : World} {a : Addr} {v : Value} (h : w.cell? a = some v) : a.spot = none := by
  unfold World.cell? at h
  split at h
  · cases hs : a.spot with
    | none => rfl
    | some s => rw [hs] at h; simp at h
  · cases h

theorem cellsOf_eq {P : Program} {tt : Nat → Option TI} (T : TOk P tt) {t : Nat} {i : TI} (h : tt t = some i) : P.cellsOf t = i.size := by
  obtain ⟨info, d, z, r⟩ := T.get h
  simp [Program.cellsOf, r.hinfo, r.size]

section
variable {H : Type} {enc : TypeId × Value → H} {P : Program} {w : World} {base : Nat} {spare : Nat → Bool} {held : Bool} {tt : Nat → Option TI}

theorem trod_bool' {fuel t : Nat} {cs : List Value} {x : DataW H × List MemPlace} (ht : P.underlying t = some .bool) (h : DataW.trod enc P w base spare held fuel t cs = some x) : ∃ b, cs = [.bool b] := by
  cases fuel with
  | zero => simp [DataW.trod] at h
  | succ n =>
    unfold DataW.trod at h
    rw [ht] at h
    split at h <;> simp_all

/-- Cells with what they are. -/
def Good (w : World) (cs : List Value) (ds : List D) : Prop :=
  ds.length = cs.length ∧ (∀ (j : Nat) (v : Value) (d : D), cs[j]? = some v → ds[j]? = some d → RepD w noOwn v d) ∧ ∀ v ∈ cs, v.oneCell' = true

theorem open_any (T : TOk P tt) {L : List Nat} (hL : closedB tt L = true) (B : Nat) : ∀ (fuel t : Nat) (cs : List Value) (x : DataW H × List MemPlace), t ∈ L → DataW.trod enc P w base spare held fuel t cs = some x → bulk x.1 ≤ B →
    ∃ ds : List D, Good w cs ds ∧ Fit tt B fuel t ds := by
  have hcl := hL
  simp only [closedB, List.all_eq_true] at hcl
  intro fuel
  induction fuel with
  | zero => intro t cs x ht h; simp [DataW.trod] at h
  | succ fuel ih =>
    intro t cs x ht h hB
    have hc := hcl t ht
    cases hi : tt t with
    | none => rw [hi] at hc; cases hc
    | some i =>
      rw [hi] at hc
      obtain ⟨info, d, z, r⟩ := T.get hi
      simp only [Fit, hi]
      simp only at hc
      cases hk : i.k with
      | bool =>
        have hd := r.bool hk; subst hd
        obtain ⟨b, rfl⟩ := trod_bool' r.und h
        refine ⟨[.bool b], ⟨rfl, fun j v d hv hd => ?_, by simp [Value.oneCell']⟩, b, rfl⟩
        cases j with
        | zero => simp at hv hd; subst hv hd; exact .bool b
        | succ j => simp at hv
      | int k =>
        have hd := r.int hk; subst hd
        obtain ⟨n, rfl, _, hwf⟩ := DataW.trod_int r.und h
        refine ⟨[.int k n], ⟨rfl, fun j v d hv hd => ?_, by simp [Value.oneCell']⟩, n, rfl, wrap_of_wf hwf⟩
        cases j with
        | zero => simp at hv hd; subst hv hd; exact .int k n (wrap_of_wf hwf)
        | succ j => simp at hv
      | str =>
        have hd := r.str hk; subst hd
        obtain ⟨s, rfl, hx, hsz⟩ := DataW.trod_string r.und h
        refine ⟨[.str (bytesI s)], ⟨rfl, fun j v d hv hd => ?_, by simp [Value.oneCell']⟩, _, rfl, ?_, bytesI_bound s⟩
        · cases j with
          | zero => simp at hv hd; subst hv hd; exact rep_str hsz
          | succ j => simp at hv
        · rw [hx] at hB
          simp only [bulk] at hB
          unfold bytesI
          simp only [List.length_map]
          omega
      | slice e =>
        rw [hk] at hc
        simp only [Bool.and_eq_true] at hc
        have he : e ∈ L := hasNat_iff.1 hc.1
        have hd := r.slice hk; subst hd
        cases hj : tt e with
        | none => rw [hj] at hc; cases hc.2
        | some j =>
          rw [hj] at hc
          have hpos : 0 < j.size := by simpa [Nat.blt_eq] using hc.2
          obtain ⟨infoe, de, ze, re⟩ := T.get hj
          have hce := cellsOf_eq T hj
          simp only
          rcases DataW.trod_slice r.und h with ⟨rfl, _⟩ | ⟨a, len, cap, elems, rest, n, hfu, rfl, hx, hb, hle, hm, hlen, hel, _, _⟩
          · -- nil
            have one : ∀ d, RepD w noOwn (.slice none 0 0) d → Good w [.slice none 0 0] [d] := fun d hd => ⟨rfl, fun j' v d' hv hd' => by
              cases j' with
              | zero => simp at hv hd'; subst hv hd'; exact hd
              | succ j' => simp at hv, by simp [Value.oneCell']⟩
            cases hjk : j.k with
            | int k => simp only [hj, hjk]; exact ⟨[.nums k true []], one _ (.numsNil k), true, [], rfl, fun _ => rfl, by simp, by simp⟩
            | _ => simp only [hj, hjk]; exact ⟨[.sl j.size true []], one _ (.slNil _), true, [], rfl, fun _ => rfl, by simp, by simp⟩
          · cases hfu
            have hBl : elems.length ≤ B ∧ ∀ y ∈ elems, bulk y.1 ≤ B := by
              rw [hx] at hB
              simp only [bulk] at hB
              have := bulkAll_len (elems.map (·.1))
              simp only [List.length_map] at this
              refine ⟨by omega, fun y hy => ?_⟩
              have := bulkAll_mem (List.mem_map_of_mem (f := fun y : DataW H × List MemPlace => y.1) hy)
              omega
            have one : ∀ d, RepD w noOwn (.slice (some a) len cap) d → Good w [.slice (some a) len cap] [d] := fun d hd => ⟨rfl, fun j' v d' hv hd' => by
              cases j' with
              | zero => simp at hv hd'; subst hv hd'; exact hd
              | succ j' => simp at hv, by simp [Value.oneCell']⟩
            have each : ∀ q, q < len → ∃ (cq : List Value) (dq : List D), w.cells? base (a.add (q * j.size)) j.size = some cq ∧ Good w cq dq ∧ Fit tt B fuel e dq := by
              intro q hq
              have hh := hel q hq
              rw [hce] at hh
              obtain ⟨y, hy⟩ : ∃ y, elems[q]? = some y := ⟨_, List.getElem?_eq_getElem (by omega)⟩
              rw [hy, Option.bind_eq_some_iff] at hh
              obtain ⟨cq, hcq, ht'⟩ := hh
              obtain ⟨dq, g1, g2⟩ := ih e cq y he ht' (hBl.2 y (List.mem_of_getElem? hy))
              exact ⟨cq, dq, hcq, g1, g2⟩
            by_cases h0 : len = 0
            · subst h0
              cases hjk : j.k with
              | int k => simp only [hj, hjk]; exact ⟨[.nums k false []], one _ (.numsE k a cap hm), false, [], rfl, fun h => (by cases h), by simp, by simp⟩
              | _ => simp only [hj, hjk]; exact ⟨[.sl j.size false []], one _ (.slE _ a cap hm), false, [], rfl, fun h => (by cases h), by simp, by simp⟩
            · have hsp : a.spot = none := by
                obtain ⟨cq, dq, h1, _⟩ := each 0 (by omega)
                obtain ⟨_, h2, h3⟩ := World.cells?_some h1
                have h4 := h3 0 hpos
                cases e0 : cq[0]? with
                | none => rw [List.getElem?_eq_none_iff] at e0; omega
                | some v0 =>
                  rw [e0] at h4
                  have := spot_of_cell h4
                  simpa [Addr.add] using this
              obtain ⟨b, o, sp⟩ := a
              simp only at hsp
              subst hsp
              have each' : ∀ q, q < len → ∃ (cq : List Value) (dq : List D), w.cells? base ⟨b, o + q * j.size, none⟩ j.size = some cq ∧ Good w cq dq ∧ Fit tt B fuel e dq := fun q hq => by
                have := each q hq
                rw [Addr.add_lit] at this
                exact this
              have pick : ∃ f : Nat → List Value × List D, ∀ q, q < len → w.cells? base ⟨b, o + q * j.size, none⟩ j.size = some (f q).1 ∧ Good w (f q).1 (f q).2 ∧ Fit tt B fuel e (f q).2 := by
                refine ⟨fun q => if hq : q < len then (Classical.choose (each' q hq), Classical.choose (Classical.choose_spec (each' q hq))) else ([], []), fun q hq => ?_⟩
                simp only [hq, dite_true]
                exact Classical.choose_spec (Classical.choose_spec (each' q hq))
              obtain ⟨f, hf⟩ := pick
              have cellAt : ∀ q r (v : Value), q < len → (f q).1[r]? = some v → w.cell? ⟨b, o + q * j.size + r, none⟩ = some v := by
                intro q r v hq hv
                obtain ⟨_, h2, h3⟩ := World.cells?_some (hf q hq).1
                have hr : r < j.size := by rw [← h2]; exact (List.getElem?_eq_some_iff.1 hv).1
                have := h3 r hr
                rw [Addr.add_lit, hv] at this
                exact this
              have lenAt : ∀ q, q < len → (f q).1.length = j.size ∧ (f q).2.length = j.size := by
                intro q hq
                obtain ⟨_, h2, _⟩ := World.cells?_some (hf q hq).1
                exact ⟨h2, by rw [(hf q hq).2.1.1, h2]⟩
              have gen : (∀ k, j.k ≠ .int k) → ∃ ds : List D, Good w [.slice (some ⟨b, o, none⟩) len cap] ds ∧ ∃ nl xs, ds = [.sl j.size nl xs] ∧ (nl = true → xs = []) ∧ xs.length ≤ B ∧ ∀ c ∈ xs, c.length = j.size ∧ Fit tt B fuel e c := by
                intro _
                refine ⟨_, one (.sl j.size false ((List.range len).map fun q => (f q).2)) ?_, false, _, rfl, fun h => (by cases h), by simp; omega, fun c hcm => ?_⟩
                · refine .sl j.size b o len cap _ (fun q r => (f q).1.getD r undef) (by simp) hle hm ?_ ?_ ?_
                  · intro q c hq
                    obtain ⟨hq1, rfl⟩ := map_range_at hq
                    exact (lenAt q hq1).2
                  · intro q r c d hq hd
                    obtain ⟨hq1, rfl⟩ := map_range_at hq
                    obtain ⟨l1, l2⟩ := lenAt q hq1
                    have hr : r < (f q).1.length := by rw [l1, ← l2]; exact (List.getElem?_eq_some_iff.1 hd).1
                    have e1 : (f q).1[r]? = some (f q).1[r] := List.getElem?_eq_getElem hr
                    have e2 : (f q).1.getD r undef = (f q).1[r] := by rw [List.getD_eq_getElem?_getD, e1]; rfl
                    rw [e2]
                    exact ⟨cellAt q r _ hq1 e1, fun ow n h => (by cases h), (hf q hq1).2.1.2.2 _ (List.getElem_mem hr)⟩
                  · intro q r c d hq hd
                    obtain ⟨hq1, rfl⟩ := map_range_at hq
                    obtain ⟨l1, l2⟩ := lenAt q hq1
                    have hr : r < (f q).1.length := by rw [l1, ← l2]; exact (List.getElem?_eq_some_iff.1 hd).1
                    have e1 : (f q).1[r]? = some (f q).1[r] := List.getElem?_eq_getElem hr
                    have e2 : (f q).1.getD r undef = (f q).1[r] := by rw [List.getD_eq_getElem?_getD, e1]; rfl
                    rw [e2]
                    exact (hf q hq1).2.1.2.1 r _ d e1 hd
                · rw [List.mem_map] at hcm
                  obtain ⟨q, hq, rfl⟩ := hcm
                  have hq1 : q < len := by simpa using hq
                  exact ⟨(lenAt q hq1).2, (hf q hq1).2.2⟩
              cases hjk : j.k with
              | int k =>
                have hs1 : j.size = 1 := re.one hjk
                have isInt : ∀ q, q < len → ∃ n, (f q).2 = [.int k n] ∧ k.wrap n = n := by
                  intro q hq
                  have hfit := (hf q hq).2.2
                  cases fuel with
                  | zero => exact hfit.elim
                  | succ fuel =>
                    simp only [Fit, hj, hjk] at hfit
                    exact hfit
                have num : ∃ g : Nat → Int, ∀ q, q < len → (f q).2 = [.int k (g q)] ∧ k.wrap (g q) = g q := by
                  refine ⟨fun q => if hq : q < len then Classical.choose (isInt q hq) else 0, fun q hq => ?_⟩
                  simp only [hq, dite_true]
                  exact Classical.choose_spec (isInt q hq)
                obtain ⟨g, hg⟩ := num
                simp only [hj, hjk]
                refine ⟨_, one (.nums k false ((List.range len).map g)) ?_, false, _, rfl, fun h => (by cases h), by simp; omega, fun x hxm => ?_⟩
                · refine .nums k b o len cap _ (by simp) hle hm ?_ ?_
                  · intro q y hq
                    obtain ⟨hq1, rfl⟩ := map_range_at hq
                    obtain ⟨l1, l2⟩ := lenAt q hq1
                    rw [hs1] at l1
                    match hfq : (f q).1, l1 with
                    | [v], _ =>
                      have hrep := (hf q hq1).2.1.2.1 0 v (.int k (g q)) (by rw [hfq]; rfl) (by rw [(hg q hq1).1]; rfl)
                      have hv : v = .int k (g q) := by cases hrep; rfl
                      subst hv
                      have := cellAt q 0 _ hq1 (by rw [hfq]; rfl)
                      rw [hs1, Nat.mul_one, Nat.add_zero] at this
                      exact ⟨this, fun ow n h => (by cases h), rfl⟩
                  · intro q y hq
                    obtain ⟨hq1, rfl⟩ := map_range_at hq
                    exact (hg q hq1).2
                · rw [List.mem_map] at hxm
                  obtain ⟨q, hq, rfl⟩ := hxm
                  exact (hg q (by simpa using hq)).2
              | _ => simp only [hj, hjk]; exact gen (fun k hk' => by rw [hjk] at hk'; cases hk')
      | struct gs =>
        rw [hk] at hc
        simp only [Bool.and_eq_true, List.all_eq_true] at hc
        obtain ⟨fs, rfl, hgs, _⟩ := r.struct hk
        obtain ⟨xs, n, hfu, hx, hl, hxl, hfield⟩ := DataW.trod_struct r.und h
        cases hfu
        rw [cellsOf_eq T hi] at hl
        have hBx : ∀ y ∈ xs, bulk y.1 ≤ B := by
          rw [hx] at hB
          simp only [bulk] at hB
          intro y hy
          have := bulkAll_mem (List.mem_map_of_mem (f := fun y : DataW H × List MemPlace => y.1) hy)
          omega
        have part : ∀ p ∈ gs, ∀ j, tt p.2 = some j → ∃ dq, Good w ((cs.drop p.1).take j.size) dq ∧ Fit tt B fuel p.2 dq := by
          intro p hp j hj
          rw [← hgs, List.mem_map] at hp
          obtain ⟨fl, hfl, rfl⟩ := hp
          obtain ⟨q, hq, hqe⟩ := List.mem_iff_getElem.1 hfl
          have hfq : fs[q]? = some fl := by
            have h1 : fs.toList[q]? = some fl := by rw [List.getElem?_eq_getElem hq, hqe]
            simpa using h1
          have hh := hfield q fl hfq
          simp only at hj ⊢
          rw [cellsOf_eq T hj] at hh
          have hql : q < xs.length := by rw [hxl]; simpa using hq
          rw [List.getElem?_eq_getElem hql] at hh
          have hmem : fl.type ∈ L := hasNat_iff.1 (hc.2 _ (by rw [← hgs]; exact List.mem_map_of_mem hfl))
          exact ih fl.type _ _ hmem hh (hBx _ (List.getElem_mem hql))
        have build : ∀ (l : List (Nat × Nat)) (off : Nat), (∀ p ∈ l, p ∈ gs) → tiles tt i.size off l = true →
            ∃ ds, Good w (cs.drop off) ds ∧ ∀ p ∈ l, ∃ j, tt p.2 = some j ∧ Fit tt B fuel p.2 ((ds.drop (p.1 - off)).take j.size) := by
          intro l
          induction l with
          | nil =>
            intro off _ ht
            simp only [tiles] at ht
            have := Nat.eq_of_beq_eq_true ht
            have hnil : cs.drop off = [] := List.drop_eq_nil_of_le (by omega)
            rw [hnil]
            exact ⟨[], ⟨rfl, fun j v d h => by simp at h, by simp⟩, by simp⟩
          | cons p l ihl =>
            intro off hmem ht
            obtain ⟨po, pt⟩ := p
            simp only [tiles, Bool.and_eq_true] at ht
            have hpo := Nat.eq_of_beq_eq_true ht.1
            subst hpo
            cases hj : tt pt with
            | none => rw [hj] at ht; cases ht.2
            | some j =>
              rw [hj] at ht
              have ht2 := ht.2
              simp only at ht2
              obtain ⟨d0, ⟨g1, g2, g3⟩, g4⟩ := part (po, pt) (hmem _ (List.mem_cons_self ..)) j hj
              obtain ⟨ds, ⟨k1, k2, k3⟩, k4⟩ := ihl (po + j.size) (fun p hp => hmem p (List.mem_cons_of_mem _ hp)) ht2
              simp only at g1 g2 g3 g4
              obtain ⟨hle, hge⟩ := tiles_le ht2
              have l0 : d0.length = j.size := by rw [g1]; simp; omega
              have hsplit : cs.drop po = (cs.drop po).take j.size ++ cs.drop (po + j.size) := by
                rw [← List.drop_drop, List.take_append_drop]
              refine ⟨d0 ++ ds, ⟨?_, ?_, ?_⟩, ?_⟩
              · rw [hsplit, List.length_append, List.length_append, g1, k1]
              · intro q v d hv hd
                rw [hsplit, List.getElem?_append] at hv
                rw [List.getElem?_append] at hd
                have hlt : ((cs.drop po).take j.size).length = d0.length := g1.symm
                rw [hlt] at hv
                split at hv
                · rename_i hq
                  rw [if_pos hq] at hd
                  exact g2 q v d hv hd
                · rename_i hq
                  rw [if_neg hq] at hd
                  exact k2 _ v d hv hd
              · intro v hv
                rw [hsplit, List.mem_append] at hv
                rcases hv with hv | hv
                · exact g3 v hv
                · exact k3 v hv
              · intro p hp
                rcases List.mem_cons.1 hp with rfl | hp
                · refine ⟨j, hj, ?_⟩
                  simp only [Nat.sub_self, List.drop_zero]
                  rw [List.take_append_of_le_length (by omega), List.take_of_length_le (by omega)]
                  exact g4
                · obtain ⟨j', hj', hfit⟩ := k4 p hp
                  refine ⟨j', hj', ?_⟩
                  have := hge p hp
                  have e1 : (d0 ++ ds).drop (p.1 - po) = ds.drop (p.1 - (po + j.size)) := by
                    rw [List.drop_append, List.drop_eq_nil_of_le (by omega), List.nil_append]
                    congr 1; omega
                  rw [e1]; exact hfit
        obtain ⟨ds, g1, g2⟩ := build gs 0 (fun p hp => hp) hc.1
        rw [List.drop_zero] at g1
        refine ⟨ds, g1, by rw [g1.1, hl], fun p hp => ?_⟩
        obtain ⟨j, h1, h2⟩ := g2 p hp
        exact ⟨j, h1, by simpa using h2⟩
      | ptr => rw [hk] at hc; cases hc
      | arr n e => rw [hk] at hc; cases hc
      | iface => rw [hk] at hc; cases hc
      | fn => rw [hk] at hc; cases hc
      | other => rw [hk] at hc; cases hc
end
end Go.VM
