/- The machine over values: a program's functions. -/
import Derived.Test.YtjmcgdhekjkjfaaVM26
set_option linter.unusedSimpArgs false
set_option linter.unusedVariables false
namespace Go.VM
open Go

structure Env where
  tt : Nat → Option TI
  glob : Nat → Option (List D)
  lin : FuncId → List Nat
  live : FuncId → Nat → List Nat
  fns : FuncId → Option Func
  ext : FuncId → List V → Option Ret

def Env.ctx (E : Env) (f : FuncId) (call : FuncId → List V → Option Ret) : Ctx :=
  { tt := E.tt, glob := E.glob, call := call, lin := E.lin f, live := E.live f }

/-- A call, so many calls deep. -/
def callN (E : Env) (fuel : Nat) : Nat → FuncId → List V → Option Ret
  | 0, _, _ => none
  | n + 1, f, args => match E.ext f args with
    | some r => some r
    | none => match E.fns f with
      | some fn => match fn.body with
        | some c => match Nat.ble args.length fn.ntmps with
          | true => run (E.ctx f (callN E fuel n)) fuel fn.results.toList c args
          | false => none
        | none => none
      | none => none

def okFn (live : Nat → List Nat) (fn : Func) : Bool :=
  !(fn.name == "runtime.NumGoroutine") && (match fn.body with | some c => okC live fn.ntmps c | none => true)

structure EnvOk (P : Program) (E : Env) : Prop where
  tt : TOk P E.tt
  fns : ∀ f fn, E.fns f = some fn → P.funcs[f]? = some fn ∧ okFn (E.live f) fn = true
  mixed : P.follows .mixedOrders = true
  ext : ∀ f args r, E.ext f args = some r → Sound P E.glob f args r

theorem callN_sound {P : Program} {E : Env} (O : EnvOk P E) {fuel : Nat} : ∀ {n : Nat} {f : FuncId} {args : List V} {r : Ret}, callN E fuel n f args = some r → Sound P E.glob f args r
  | 0, f, args, r, h => by simp [callN] at h
  | n + 1, f, args, r, h => by
    simp only [callN] at h
    split at h
    · rename_i r' hr
      cases h
      exact O.ext f args _ hr
    · split at h
      · rename_i fn hfn
        split at h
        · rename_i c hc
          split at h
          · rename_i hl
            obtain ⟨h1, h2⟩ := O.fns f fn hfn
            simp only [okFn, hc, Bool.and_eq_true, Bool.not_eq_true'] at h2
            exact run_sound (C := E.ctx f (callN E fuel n)) O.tt (fun f args r h => callN_sound O h) O.mixed h1 hc h2.1 h2.2 (Nat.le_of_ble_eq_true hl) h
          · cases h
        · cases h
      · cases h

-- ------------------------------------------------------------ tables

def assoc {α : Type} (t : Nat) : List (Nat × α) → Option α
  | [] => none
  | (u, x) :: l => bif Nat.beq t u then some x else assoc t l

theorem assoc_mem {α : Type} {t : Nat} {x : α} : ∀ {l : List (Nat × α)}, assoc t l = some x → (t, x) ∈ l
  | [], h => by simp [assoc] at h
  | (u, y) :: l, h => by
    simp only [assoc] at h
    cases e : Nat.beq t u with
    | true => rw [e] at h; cases h; rw [Nat.eq_of_beq_eq_true e]; exact List.mem_cons_self ..
    | false => rw [e] at h; exact List.mem_cons_of_mem _ (assoc_mem h)

theorem ttOk_of {P : Program} {l : List (Nat × TI)} (h : l.all (fun p => tiOk P p.1 p.2) = true)
    (ha : l.all (fun p => !p.2.isAgg || (!P.stoodInHeld p.1 && (!p.2.eq || !P.eqGuardType P.depth p.1))) = true) : TOk P (fun t => assoc t l) := by
  simp only [List.all_eq_true] at h ha
  refine ⟨fun t i ht => h _ (assoc_mem ht), fun t i ht hg => ?_⟩
  have := ha _ (assoc_mem ht)
  simp only [hg, Bool.not_true, Bool.false_or, Bool.and_eq_true, Bool.not_eq_true', Bool.or_eq_true] at this
  refine ⟨this.1, fun he => ?_⟩
  rcases this.2 with h1 | h1
  · rw [he] at h1; cases h1
  · exact h1

theorem fnsOk_of {P : Program} {live : Nat → Nat → List Nat} (h : ((List.range P.funcs.size).all fun f => match P.funcs[f]? with | some fn => okFn (live f) fn | none => true) = true) :
    ∀ (f : Nat) (fn : Func), P.funcs[f]? = some fn → P.funcs[f]? = some fn ∧ okFn (live f) fn = true := by
  intro f fn hf
  refine ⟨hf, ?_⟩
  simp only [List.all_eq_true, List.mem_range] at h
  have := h f (Array.getElem?_eq_some_iff.1 hf).1
  rw [hf] at this
  exact this

end Go.VM
