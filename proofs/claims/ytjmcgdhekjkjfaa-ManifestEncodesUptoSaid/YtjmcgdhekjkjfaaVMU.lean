/- The machine over values: equations for what is done behind a region, and ways that part. -/
import Derived.Test.YtjmcgdhekjkjfaaVMT
import Derived.Test.YtjmcgdhekjkjfaaVMR
set_option linter.unusedSimpArgs false
set_option linter.unusedVariables false
namespace Go.VM
open Go

def nilT (t : Nat) (v : Option V) (os : List Pl) : List Pl :=
  match v with
  | some v => bif isNilD v then .t t :: os else os
  | none => os
def nilB (v : Option V) (bs : List (Option Blk)) (j : Nat) (os : List Pl) : List Pl :=
  match v with
  | some (.ptr i off) => match getO bs i with
    | some (.cells _ cs) => match cs[off + j]? with
      | some v => bif isNilD v then .b i (off + j) :: os else os
      | none => os
    | _ => os
  | _ => os
def nilC (i k : Nat) (B : Option Blk) (os : List Pl) : List Pl :=
  match B with
  | some (.cells _ cs) => match cs[k]? with
    | some v => bif isNilD v then .b i k :: os else os
    | none => os
  | _ => os
def nilV (i k : Nat) (v : Option V) (os : List Pl) : List Pl :=
  match v with
  | some v => bif isNilD v then .b i k :: os else os
  | none => os
theorem nilT_some (t : Nat) (v : V) (os : List Pl) : nilT t (some v) os = condE (isNilD v) (.t t :: os) os := (rfl)
theorem nilT_none (t : Nat) (os : List Pl) : nilT t none os = os := (rfl)
theorem nilB_ptr (i off : Nat) (bs : List (Option Blk)) (j : Nat) (os : List Pl) : nilB (some (.ptr i off)) bs j os = nilC i (off + j) (getO bs i) os := (rfl)
theorem nilC_cells (i k : Nat) (fz : Bool) (cs : List V) (os : List Pl) : nilC i k (some (.cells fz cs)) os = nilV i k cs[k]? os := (rfl)
theorem nilV_some (i k : Nat) (v : V) (os : List Pl) : nilV i k (some v) os = condE (isNilD v) (.b i k :: os) os := (rfl)
theorem ownNils_nil (st : St) : st.ownNils [] = st := (rfl)
theorem ownNils_t (tm : List (Nat × V)) (bs : List (Option Blk)) (os : List Pl) (t : Nat) (l : List (Nat × Option Nat)) :
    St.ownNils ⟨tm, bs, os⟩ ((t, none) :: l) = St.ownNils ⟨tm, bs, nilT t (look t tm) os⟩ l := by
  simp only [St.ownNils, nilPl, nilT]
  cases look t tm with
  | none => rfl
  | some v => simp only; cases isNilD v <;> rfl
theorem ownNils_b (tm : List (Nat × V)) (bs : List (Option Blk)) (os : List Pl) (t j : Nat) (l : List (Nat × Option Nat)) :
    St.ownNils ⟨tm, bs, os⟩ ((t, some j) :: l) = St.ownNils ⟨tm, bs, nilB (look t tm) bs j os⟩ l := by
  simp only [St.ownNils, nilPl, nilB]
  cases look t tm with
  | none => rfl
  | some v =>
    cases v with
    | ptr i off =>
      simp only [getB_getO]
      cases getO bs i with
      | none => rfl
      | some B =>
        cases B with
        | ints fz k xs => rfl
        | cells fz cs =>
          simp only
          cases cs[off + j]? with
          | none => rfl
          | some v => simp only; cases isNilD v <;> rfl
    | _ => rfl
theorem close_keep (l : List Nat) (nl : List (Nat × Option Nat)) (st : St) : St.close ⟨some l, nl⟩ st = (st.ownNils nl).prune l := (rfl)
theorem close_none (nl : List (Nat × Option Nat)) (st : St) : St.close ⟨none, nl⟩ st = st.ownNils nl := (rfl)

-- ------------------------------------------------------------ ways that part

section
variable {α : Type} (b : Bool)
theorem bindE_condE (x y : Option (Ex × St)) (k : St → Option (Ex × St)) : bindE (condE b x y) k = condE b (bindE x k) (bindE y k) := by cases b <;> rfl
theorem bindS_condE (x y : Option St) (k : St → Option α) : bindS (condE b x y) k = condE b (bindS x k) (bindS y k) := by cases b <;> rfl
theorem bindV_condE {β : Type} (x y : Option β) (k : β → Option α) : bindV (condE b x y) k = condE b (bindV x k) (bindV y k) := by cases b <;> rfl
theorem blockE_condE (id : Nat) (x y : Option (Ex × St)) : blockE id (condE b x y) = condE b (blockE id x) (blockE id y) := by cases b <;> rfl
theorem finish_condE (C : Ctx) (rs : List ResultVar) (x y : Option (Ex × St)) : finish C rs (condE b x y) = condE b (finish C rs x) (finish C rs y) := by cases b <;> rfl
theorem finishP_condE (C : Ctx) (k : Nat) (rs : List ResultVar) (x y : Option (Ex × St)) : finishP C k rs (condE b x y) = condE b (finishP C k rs x) (finishP C k rs y) := by cases b <;> rfl
theorem roundE_condE (k : St → Option (Ex × St)) (out : List Nat) (x y : Option (Ex × St)) : roundE k out (condE b x y) = condE b (roundE k out x) (roundE k out y) := by cases b <;> rfl
theorem condE_ite (x y : α) : condE b x y = if b = true then x else y := by cases b <;> rfl
end
theorem condE_elim {α : Type} {b : Bool} {x y r : α} (h1 : b = true → x = r) (h0 : b = false → y = r) : condE b x y = r := by
  cases b with
  | true => exact h1 rfl
  | false => exact h0 rfl

theorem fnsOk_skip {P : Program} {live : Nat → Nat → List Nat} {skip : List Nat}
    (h : ((List.range P.funcs.size).all fun f => match hasNat f skip with | true => true | false => (match P.funcs[f]? with | some fn => okFn (live f) fn | none => true)) = true) :
    ∀ (f : Nat) (fn : Func), (match hasNat f skip with | true => none | false => P.funcs[f]?) = some fn → P.funcs[f]? = some fn ∧ okFn (live f) fn = true := by
  intro f fn hf
  cases hs : hasNat f skip with
  | true => rw [hs] at hf; cases hf
  | false =>
    rw [hs] at hf
    refine ⟨hf, ?_⟩
    simp only [List.all_eq_true, List.mem_range] at h
    have := h f (Array.getElem?_eq_some_iff.1 hf).1
    rw [hs] at this
    simp only at hf this
    rw [hf] at this
    exact this

def capV : V → Option V
  | .d y => some (.d y)
  | .ptr i o => some (.ptr i o)
  | .fn f cs => some (.fn f cs)
  | _ => none
theorem capV_d (y : D) : capV (.d y) = some (.d y) := (rfl)
theorem capV_ptr (i o : Nat) : capV (.ptr i o) = some (.ptr i o) := (rfl)
theorem capV_fn (f : FuncId) (cs : List V) : capV (.fn f cs) = some (.fn f cs) := (rfl)
theorem evCaps_nil (C : Ctx) (st : St) : evCaps C st [] = some [] := (rfl)
theorem evCaps_cons (C : Ctx) (st : St) (x : Operand) (xs : List Operand) : evCaps C st (x :: xs) = bindV (evO C st 0 x) fun v => bindV (capV v) fun u => bindV (evCaps C st xs) fun us => some (u :: us) := by
  simp only [evCaps]
  unfold bindV
  cases evO C st 0 x with
  | none => rfl
  | some v =>
    cases v with
    | d y => simp only [capV]; cases evCaps C st xs <;> rfl
    | ptr i o => simp only [capV]; cases evCaps C st xs <;> rfl
    | fn f cs => simp only [capV]; cases evCaps C st xs <;> rfl
    | _ => rfl
theorem op_makeFunc (C : Ctx) (slot : Option Nat) (dst : Option Tmp) (f : FuncId) (caps : Array Operand) (ty : TypeId) (pos : String) (af : Array Edge) (g : Option (Nat × Bool)) (st : St) :
    evOp C slot ⟨dst, .makeFunc (.func f) #[] caps, ty, pos, af, g⟩ st = bindV (evCaps C st caps.toList) fun cs => some (st.put dst (.fn f cs)) := by
  show (match (#[] : Array Operand).size, evCaps C st caps.toList with
    | 0, some cs => some (st.put dst (.fn f cs))
    | _, _ => none) = _
  unfold bindV
  cases evCaps C st caps.toList <;> rfl

attribute [simp] capV_d capV_ptr capV_fn evCaps_nil evCaps_cons op_makeFunc
attribute [simp] nilT_some nilT_none nilB_ptr nilC_cells nilV_some ownNils_nil ownNils_t ownNils_b close_keep close_none
  bindE_condE bindS_condE bindV_condE blockE_condE finish_condE finishP_condE roundE_condE
end Go.VM

/- The machine over values: equations for pointers that become data. -/
set_option linter.unusedSimpArgs false
set_option linter.unusedVariables false
namespace Go.VM
open Go

def cellsB : Blk → Option (List V)
  | .cells _ cs => some cs
  | _ => none
theorem cellsB_cells (f : Bool) (cs : List V) : cellsB (.cells f cs) = some cs := (rfl)
theorem ofBlk_t (i t : Nat) : Pl.ofBlk i (.t t) = false := (rfl)
theorem ofBlk_c (i t j : Nat) : Pl.ofBlk i (.c t j) = false := (rfl)
theorem ofBlk_b (i k j : Nat) : Pl.ofBlk i (.b k j) = Nat.beq i k := (rfl)

theorem asD_ptr (C : Ctx) (st : St) (i off : Nat) : asD C st (.ptr i off) = bindV (getB st i) fun B => bindV (cellsB B) fun cs => bindV (allD (cs.drop off)) fun ds =>
    some (D.fp ds, { st with blocks := st.blocks.set i (some (.cells true cs)), owns := dropPl (Pl.ofBlk i) st.owns }) := by
  show (match getB st i with
    | some (.cells _ cs) => match allD (cs.drop off) with
      | some ds => some (D.fp ds, st.freeze i)
      | none => none
    | _ => none) = _
  unfold St.freeze
  rcases getB st i with _ | B
  · rfl
  · cases B with
    | ints f k xs => rfl
    | cells f cs =>
      simp only [bindV_some, cellsB_cells, idd]
      rcases allD (cs.drop off) with _ | ds <;> rfl
theorem oldB_none (n : Nat) : oldB n none = none := (rfl)
theorem nilPtr_ptr (i o : Nat) : nilPtr (.ptr i o) = some false := (rfl)
theorem nilPtr_gp (i o : Nat) : nilPtr (.gp i o) = some false := (rfl)
theorem nilPtr_fp (cs : List D) : nilPtr (.d (.fp cs)) = some false := (rfl)
theorem nilPtr_nil : nilPtr (.d .nilptr) = some true := (rfl)
theorem putRet_0 (l : List (Nat × V)) (bs : List (Option Blk)) (os : List Pl) (d : Nat) : St.putRet ⟨l, bs, os⟩ (some d) ⟨[], []⟩ = ⟨ins d (.tup []) l, bs, dropPl (Pl.ofTmp d) os⟩ := (rfl)
theorem putRet_no (st : St) (own : List Nat) : St.putRet st none ⟨[], own⟩ = st := (rfl)
theorem refsO_const (st : St) (v : Value) : refsO st (.const v) = [] := (rfl)
theorem refsO_func (st : St) (f : FuncId) : refsO st (.func f) = [] := (rfl)
attribute [simp] refsO_const refsO_func putRet_0 putRet_no nilPtr_ptr nilPtr_gp nilPtr_fp nilPtr_nil oldB_none cellsB_cells ofBlk_t ofBlk_c ofBlk_b asD_ptr
end Go.VM

/- The machine over values: functions told apart, and laid variables. -/
set_option linter.unusedSimpArgs false
set_option linter.unusedVariables false
namespace Go.VM
open Go Go.RowKit

variable {P : Program} {E : Env}

theorem ext_of_below {w w' : World} {own : Own} (h : Below w.heap.size w w') (hp : ∀ b s, own b = some s → ∃ arr e, w.heap[b]? = some (.cells arr e (0, 0))) : Ext w own w' own where
  os := h.os
  tape := h.tape
  output := h.output
  size := h.size
  free b hb ho := ⟨h.block b hb, ho⟩
  part b ow n hb ho := ⟨fun o _ => cell_of_heap (h.block b hb) o, fun ow' n' h' => by rw [ho] at h'; cases h'; exact Nat.le_refl _⟩
  wide b arr e hb := ⟨arr, by
    rw [h.block b (by
      rcases Nat.lt_or_ge b w.heap.size with h1 | h1
      · exact h1
      · rw [Array.getElem?_eq_none h1] at hb; cases hb)]; exact hb, rfl⟩
  far b n ho := by
    obtain ⟨arr, e, hb⟩ := hp b _ ho
    refine ⟨h.block b ?_, ho⟩
    rcases Nat.lt_or_ge b w.heap.size with h1 | h1
    · exact h1
    · rw [Array.getElem?_eq_none h1] at hb; cases hb

/-- A function that hands back a truth, and writes nothing that was there. -/
theorem sound_bool {glob : Nat → Option (List D)} {f : FuncId} {args : List V} {b : Bool}
    (hf : ∃ fn, P.funcs[f]? = some fn ∧ (fn.name == "runtime.NumGoroutine") = false ∧ fn.body.isNone = false)
    (h : ∀ cargs w own, Given w own cargs args → (∀ g cs, glob g = some cs → RepC w own g 0 cs) → Calls P f cargs w fun e w' => e = .returned (.bool b) ∧ Below w.heap.size w w') :
    Sound P glob f args ⟨[.d (.bool b)], []⟩ := by
  refine ⟨hf, fun cargs w own G hg hp _ => (h cargs w own G hg).mono ?_⟩
  rintro e w' ⟨rfl, hB⟩
  have hE := ext_of_below hB hp
  refine ⟨_, own, rfl, hE, fun b s hb => ?_, #[.bool b], ⟨rfl, fun j x hx => ?_⟩, rfl, fun j hj => by simp at hj⟩
  · obtain ⟨arr, e, h1⟩ := hp b s hb
    obtain ⟨arr', h2, _⟩ := hE.wide b arr e h1
    exact ⟨arr', e, h2⟩
  · cases j with
    | zero => simp at hx; subst hx; exact .d _ _ (.bool b)
    | succ j => simp at hx

theorem call_ofG (O : EnvOk P E) {fuel n : Nat} {f : FuncId} {args : List V} {b : Bool} {w : World} {cargs : Array Value}
    (h : callN E fuel n f args = some ⟨[.d (.bool b)], []⟩) (G : Given w noOwn cargs args) (hg : ∀ g cs, E.glob g = some cs → RepC w noOwn g 0 cs) :
    Calls P f cargs w fun e w' => e = .returned (.bool b) ∧ Below w.heap.size w w' := by
  obtain ⟨_, hS⟩ := callN_sound O h
  refine Calls.mono (hS cargs w noOwn G hg (fun b s h => by cases h) (fun b ow n h => by cases h)) ?_
  rintro e w' ⟨v, own', rfl, B⟩
  obtain ⟨vs, ⟨hs, hr⟩, hv, _⟩ := B.vals
  have h1 : vs.size = 1 := by simpa using hs
  rw [if_pos h1] at hv
  have := inv_bool (hr 0 (.d (.bool b)) rfl)
  exact ⟨by rw [hv, this], below_of_ext B.ext⟩
end Go.VM
