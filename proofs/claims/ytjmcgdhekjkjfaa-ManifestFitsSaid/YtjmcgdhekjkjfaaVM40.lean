/- The machine over values: equations to reckon by, for regions whose order is open. -/
import Derived.Test.YtjmcgdhekjkjfaaVM31
set_option linter.unusedSimpArgs false
set_option linter.unusedVariables false
namespace Go.VM
open Go

section
variable (C : Ctx) (fuel : Nat) (st : St)
theorem ev_regionD (id : Nat) (ops : Array Oper) : ev C fuel (.region id ops true) st = bindS (evD C.nolin ops st.blocks.length (C.live (id + 200000)) 0 ops.toList st) fun st => some (.normal, st) := by
  show (match evD C.nolin ops st.blocks.length (C.live (id + 200000)) 0 ops.toList st with | some st => some (Ex.normal, st) | none => none) = _
  unfold bindS
  cases evD C.nolin ops st.blocks.length (C.live (id + 200000)) 0 ops.toList st <;> rfl
theorem nolin_tt : C.nolin.tt = C.tt := (rfl)
theorem nolin_glob : C.nolin.glob = C.glob := (rfl)
theorem nolin_call : C.nolin.call = C.call := (rfl)
theorem nolin_lin : C.nolin.lin = [] := (rfl)

variable (ops : Array Oper) (n i : Nat) (fl : List Nat) (f : Bool) (l : List Oper) (dst : Option Tmp) (op : Op) (ty : TypeId) (pos : String) (af : Array Edge)
theorem evD_nil : evD C ops n fl i [] st = some st := (rfl)
theorem evD_cons : evD C ops n fl i (⟨dst, op, ty, pos, af, none⟩ :: l) st = bindS (opD C n i (hasNat i fl) ⟨dst, op, ty, pos, af, none⟩ st) fun st => evD C ops n fl (i + 1) l st := by
  show (match opD C n i (hasNat i fl) ⟨dst, op, ty, pos, af, none⟩ st with | some st => evD C ops n fl (i + 1) l st | none => none) = _
  unfold bindS
  cases opD C n i (hasNat i fl) ⟨dst, op, ty, pos, af, none⟩ st <;> rfl
theorem evD_guard (g : Nat × Bool) : evD C ops n fl i (⟨dst, op, ty, pos, af, some g⟩ :: l) st =
    bindV (wantedV ops st ⟨dst, op, ty, pos, af, some g⟩) fun b => condE b (bindS (opD C n i (hasNat i fl) ⟨dst, op, ty, pos, af, none⟩ st) fun st => evD C ops n fl (i + 1) l st) (evD C ops n fl (i + 1) l (st.put dst .skip)) := by
  have e : opD C n i (hasNat i fl) ⟨dst, op, ty, pos, af, some g⟩ st = opD C n i (hasNat i fl) ⟨dst, op, ty, pos, af, none⟩ st := rfl
  show (match wantedV ops st ⟨dst, op, ty, pos, af, some g⟩ with
    | some true => (match opD C n i (hasNat i fl) ⟨dst, op, ty, pos, af, some g⟩ st with | some st => evD C ops n fl (i + 1) l st | none => none)
    | some false => evD C ops n fl (i + 1) l (st.put dst .skip)
    | none => none) = _
  rw [e]
  rcases wantedV ops st ⟨dst, op, ty, pos, af, some g⟩ with _ | b
  · rfl
  · cases b
    · rfl
    · show _ = bindS _ _
      unfold bindS
      cases opD C n i (hasNat i fl) ⟨dst, op, ty, pos, af, none⟩ st <;> rfl

variable (g : Option (Nat × Bool))
theorem od_assign (x : Operand) : opD C n i f ⟨dst, .assign x, ty, pos, af, g⟩ st = evOp C none ⟨dst, .assign x, ty, pos, af, g⟩ st := (rfl)
theorem od_pick (x y z : Operand) : opD C n i f ⟨dst, .pick x y z, ty, pos, af, g⟩ st = evOp C none ⟨dst, .pick x y z, ty, pos, af, g⟩ st := (rfl)
theorem od_build (t : TypeId) (ps : Array (Nat × Operand)) : opD C n i f ⟨dst, .build t ps, ty, pos, af, g⟩ st = evOp C none ⟨dst, .build t ps, ty, pos, af, g⟩ st := (rfl)
theorem od_nilCheck (x : Operand) : opD C n i f ⟨dst, .nilCheck x, ty, pos, af, g⟩ st = evOp C none ⟨dst, .nilCheck x, ty, pos, af, g⟩ st := (rfl)
theorem od_binOp (o : BinOp) (t u : TypeId) (x y : Operand) : opD C n i f ⟨dst, .binOp o t x y u, ty, pos, af, g⟩ st = evOp C none ⟨dst, .binOp o t x y u, ty, pos, af, g⟩ st := (rfl)
theorem od_unOp (o : UnOp) (t : TypeId) (x : Operand) : opD C n i f ⟨dst, .unOp o t x, ty, pos, af, g⟩ st = evOp C none ⟨dst, .unOp o t x, ty, pos, af, g⟩ st := (rfl)
theorem od_convert (s t : TypeId) (x : Operand) : opD C n i f ⟨dst, .convert s t x, ty, pos, af, g⟩ st = evOp C none ⟨dst, .convert s t x, ty, pos, af, g⟩ st := (rfl)
theorem od_makeInterface (t : TypeId) (x : Operand) : opD C n i f ⟨dst, .makeInterface t x, ty, pos, af, g⟩ st = evOp C none ⟨dst, .makeInterface t x, ty, pos, af, g⟩ st := (rfl)
theorem od_makeFunc (x : Fn) (p q : Array Operand) : opD C n i f ⟨dst, .makeFunc x p q, ty, pos, af, g⟩ st = evOp C none ⟨dst, .makeFunc x p q, ty, pos, af, g⟩ st := (rfl)
theorem od_slice (t : TypeId) (x : Operand) (p q r : Option Operand) : opD C n i f ⟨dst, .slice t x p q r, ty, pos, af, g⟩ st = evOp C none ⟨dst, .slice t x p q r, ty, pos, af, g⟩ st := (rfl)
theorem od_fieldAddr (t : TypeId) (x : Operand) (k : Nat) : opD C n i f ⟨dst, .fieldAddr t x k, ty, pos, af, g⟩ st = evOp C none ⟨dst, .fieldAddr t x k, ty, pos, af, g⟩ st := (rfl)
theorem od_field (t : TypeId) (x : Operand) (k : Nat) : opD C n i f ⟨dst, .field t x k, ty, pos, af, g⟩ st = evOp C none ⟨dst, .field t x k, ty, pos, af, g⟩ st := (rfl)
theorem od_indexAddr (t : TypeId) (x y : Operand) : opD C n i f ⟨dst, .indexAddr t x y, ty, pos, af, g⟩ st = evOp C none ⟨dst, .indexAddr t x y, ty, pos, af, g⟩ st := (rfl)
theorem od_index (t : TypeId) (x y : Operand) : opD C n i f ⟨dst, .index t x y, ty, pos, af, g⟩ st = evOp C none ⟨dst, .index t x y, ty, pos, af, g⟩ st := (rfl)
theorem od_extract (x : Operand) (k : Nat) : opD C n i f ⟨dst, .extract x k, ty, pos, af, g⟩ st = evOp C none ⟨dst, .extract x k, ty, pos, af, g⟩ st := (rfl)
theorem od_call (c : Call) : opD C n i f ⟨dst, .call c, ty, pos, af, g⟩ st = evOp C none ⟨dst, .call c, ty, pos, af, g⟩ st := (rfl)
theorem od_move (x : Operand) : opD C n i f ⟨dst, .move x, ty, pos, af, g⟩ st = bindV (evO C st ty x) fun v => condE (isTup v) none (some (st.put dst v)) := by
  show (match evO C st ty x with | some v => (match isTup v with | true => none | false => some (st.put dst v)) | none => none) = _
  unfold bindV
  rcases evO C st ty x with _ | v
  · rfl
  · cases h : isTup v <;> simp [h, condE]
theorem od_load (t : TypeId) (x : Operand) : opD C n i f ⟨dst, .load t x, ty, pos, af, g⟩ st = condE (f && !(allLt n (refsO st x))) none (evOp C none ⟨dst, .load t x, ty, pos, af, g⟩ st) := by
  show (match f && !(allLt n (refsO st x)) with | true => none | false => evOp C none ⟨dst, .load t x, ty, pos, af, g⟩ st) = _
  cases f && !(allLt n (refsO st x)) <;> rfl
theorem od_store (t : TypeId) (x y : Operand) : opD C n i f ⟨dst, .store t x y, ty, pos, af, g⟩ st = condE (f && !(allGe n (refsO st x))) none (evOp C none ⟨dst, .store t x y, ty, pos, af, g⟩ st) := by
  show (match f && !(allGe n (refsO st x)) with | true => none | false => evOp C none ⟨dst, .store t x y, ty, pos, af, g⟩ st) = _
  cases f && !(allGe n (refsO st x)) <;> rfl
theorem od_alloc (e : TypeId) : opD C n i f ⟨dst, .alloc e, ty, pos, af, g⟩ st = condE (getB st (n + i)).isSome none (evOp C (some (n + i)) ⟨dst, .alloc e, ty, pos, af, g⟩ (st.pad (n + i + 1))) := by
  show (match getB st (n + i) with | none => evOp C (some (n + i)) ⟨dst, .alloc e, ty, pos, af, g⟩ (st.pad (n + i + 1)) | some _ => none) = _
  cases getB st (n + i) <;> rfl
theorem od_box (e : TypeId) (x : Operand) : opD C n i f ⟨dst, .box e x, ty, pos, af, g⟩ st = condE (getB st (n + i)).isSome none (evOp C (some (n + i)) ⟨dst, .box e x, ty, pos, af, g⟩ (st.pad (n + i + 1))) := by
  show (match getB st (n + i) with | none => evOp C (some (n + i)) ⟨dst, .box e x, ty, pos, af, g⟩ (st.pad (n + i + 1)) | some _ => none) = _
  cases getB st (n + i) <;> rfl
theorem od_makeSlice (t : TypeId) (x y : Operand) : opD C n i f ⟨dst, .makeSlice t x y, ty, pos, af, g⟩ st = condE (getB st (n + i)).isSome none (evOp C (some (n + i)) ⟨dst, .makeSlice t x y, ty, pos, af, g⟩ (st.pad (n + i + 1))) := by
  show (match getB st (n + i) with | none => evOp C (some (n + i)) ⟨dst, .makeSlice t x y, ty, pos, af, g⟩ (st.pad (n + i + 1)) | some _ => none) = _
  cases getB st (n + i) <;> rfl
theorem od_buildSlice (t k : Nat) (ps : Array (Nat × Operand)) : opD C n i f ⟨dst, .buildSlice t k ps, ty, pos, af, g⟩ st = bindV (litCells C st t k ps.toList) fun r => bindV (litV k r.1 r.2) fun d => some ((st.put dst (.d d)).own dst true) := by
  show (match litCells C st t k ps.toList with | some (cs, j) => (match litV k cs j with | some r => some ((st.put dst (.d r)).own dst true) | none => none) | none => none) = _
  unfold bindV
  rcases litCells C st t k ps.toList with _ | ⟨cs, j⟩
  · rfl
  · simp only; cases litV k cs j <;> rfl
end

theorem pad_mk (l : List (Nat × V)) (bs : List (Option Blk)) (os : List Pl) (m : Nat) : St.pad ⟨l, bs, os⟩ m = ⟨l, bs ++ List.replicate (m - bs.length) none, os⟩ := (rfl)
section
variable (k : Nat) (cs : List V) (s b : Nat) (z : List D) (c q : Bool)
theorem litV_int (ik : IntKind) : litV k cs ⟨.int ik, s, b, z, c, q⟩ = bindV (allI ik cs) fun ns => some (.nums ik false ns) := by
  unfold litV bindV; simp only; cases allI ik cs <;> rfl
theorem litV_bool : litV k cs ⟨.bool, s, b, z, c, q⟩ = bindV (allD cs) fun ds => some (.sl s false (chunk s k ds)) := by
  unfold litV bindV; simp only; cases allD cs <;> rfl
theorem litV_str : litV k cs ⟨.str, s, b, z, c, q⟩ = bindV (allD cs) fun ds => some (.sl s false (chunk s k ds)) := by
  unfold litV bindV; simp only; cases allD cs <;> rfl
theorem litV_ptr : litV k cs ⟨.ptr, s, b, z, c, q⟩ = bindV (allD cs) fun ds => some (.sl s false (chunk s k ds)) := by
  unfold litV bindV; simp only; cases allD cs <;> rfl
theorem litV_slice (e : Nat) : litV k cs ⟨.slice e, s, b, z, c, q⟩ = bindV (allD cs) fun ds => some (.sl s false (chunk s k ds)) := by
  unfold litV bindV; simp only; cases allD cs <;> rfl
theorem litV_struct (fs : List (Nat × Nat)) : litV k cs ⟨.struct fs, s, b, z, c, q⟩ = bindV (allD cs) fun ds => some (.sl s false (chunk s k ds)) := by
  unfold litV bindV; simp only; cases allD cs <;> rfl
theorem litV_arr (m e : Nat) : litV k cs ⟨.arr m e, s, b, z, c, q⟩ = bindV (allD cs) fun ds => some (.sl s false (chunk s k ds)) := by
  unfold litV bindV; simp only; cases allD cs <;> rfl
theorem litV_iface : litV k cs ⟨.iface, s, b, z, c, q⟩ = bindV (allD cs) fun ds => some (.sl s false (chunk s k ds)) := by
  unfold litV bindV; simp only; cases allD cs <;> rfl
end
theorem refsO_tmp (st : St) (t : Nat) : refsO st (.tmp t) = (match look t st.tmps with | some v => refs v | none => []) := (rfl)
theorem allLt_nil (n : Nat) : allLt n [] = true := (rfl)
theorem allGe_nil (n : Nat) : allGe n [] = true := (rfl)
theorem allLt_cons (n i : Nat) (l : List Nat) : allLt n (i :: l) = condE (decide (i < n)) (allLt n l) false := by
  simp only [allLt, nblt_dec]; rfl
theorem allGe_cons (n i : Nat) (l : List Nat) : allGe n (i :: l) = condE (decide (n ≤ i)) (allGe n l) false := by
  simp only [allGe, nble_dec]; rfl

attribute [simp ↓] ev_regionD evD_nil evD_cons evD_guard
attribute [simp] nolin_tt nolin_glob nolin_call nolin_lin od_assign od_pick od_build od_nilCheck od_binOp od_unOp od_convert od_makeInterface od_makeFunc od_slice od_fieldAddr od_field od_indexAddr od_index
  od_extract od_call od_move od_load od_store od_alloc od_box od_makeSlice od_buildSlice pad_mk litV_int litV_bool litV_str litV_ptr litV_slice litV_struct litV_arr litV_iface refsO_tmp allLt_nil allGe_nil allLt_cons allGe_cons
end Go.VM
