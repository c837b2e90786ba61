/- The machine over values: from a reckoning to the call. -/
import Derived.Test.YtjmcgdhekjkjfaaVM27
import Derived.Below
set_option linter.unusedSimpArgs false
set_option linter.unusedVariables false
namespace Go.VM
open Go Go.RowKit

variable {P : Program} {E : Env}

/-- Nothing is anyone's. -/
def noOwn : Own := fun _ => none

theorem below_of_ext {w w' : World} {own' : Own} (h : Ext w noOwn w' own') : Below w.heap.size w w' :=
  ⟨h.os, h.tape, h.output, h.size, fun k hk => (h.free k hk rfl).1⟩

theorem call_of (O : EnvOk P E) (hg : ∀ g, E.glob g = none) {fuel n : Nat} {f : FuncId} {args : List V} {b : Bool} {w : World} {cargs : Array Value}
    (h : callN E fuel n f args = some ⟨[.d (.bool b)], []⟩) (G : Given w noOwn cargs args) :
    Calls P f cargs w fun e w' => e = .returned (.bool b) ∧ Below w.heap.size w w' := by
  obtain ⟨_, hS⟩ := callN_sound O h
  refine Calls.mono (hS cargs w noOwn G (fun g cs h => by rw [hg g] at h; cases h) (fun b s h => by cases h) (fun b ow n h => by cases h)) ?_
  rintro e w' ⟨v, own', rfl, B⟩
  obtain ⟨vs, ⟨hs, hr⟩, hv, _⟩ := B.vals
  have h1 : vs.size = 1 := by simpa using hs
  rw [if_pos h1] at hv
  have := inv_bool (hr 0 (.d (.bool b)) rfl)
  exact ⟨by rw [hv, this], below_of_ext B.ext⟩

theorem wrap_of_wf {k : IntKind} {n : Int} (h : (Lit.int k n).wf = true) : k.wrap n = n := by
  simp only [Lit.wf, Bool.and_eq_true, decide_eq_true_eq] at h
  exact (wrap_iff k n).2 h

theorem byte_of_wf {n : Int} (h : (Lit.int .u8 n).wf = true) : 0 ≤ n ∧ n < 256 := by
  simp only [Lit.wf, Bool.and_eq_true, decide_eq_true_eq, IntKind.min, IntKind.max, IntKind.signed, IntKind.bits] at h
  simp at h
  omega

/-- A row of integers that came in. -/
theorem rep_row {w : World} {k : IntKind} {b o len cap : Nat} {zs : List Int} (hl : len ≤ cap) (hm : cap ≤ maxLen) (hz : len ≤ zs.length)
    (hc : ∀ i, i < zs.length → w.cell? (Addr.add ⟨b, o, none⟩ i) = some (.int k (zs.getD i 0))) (hw : ∀ n ∈ zs, (Lit.int k n).wf = true) :
    RepD w noOwn (.slice (some ⟨b, o, none⟩) len cap) (.nums k false (zs.take len)) := by
  refine .nums k b o len cap _ (by simp; omega) hl hm (fun i x hx => ⟨?_, fun ow n h => (by cases h), rfl⟩) (fun i x hx => wrap_of_wf (hw x (List.mem_of_mem_take (List.mem_of_getElem? hx))))
  rw [List.getElem?_take] at hx
  split at hx
  · have hlt := (List.getElem?_eq_some_iff.1 hx).1
    have := hc i hlt
    rw [Addr.add_lit] at this
    rw [this]
    simp [List.getD, hx]
  · cases hx

theorem rep_nil (w : World) (k : IntKind) : RepD w noOwn (.slice none 0 0) (.nums k true []) := .numsNil k

end Go.VM
