/- For every input PrimBits returns true, and the input reads as it did: no condition. -/
import Derived.Test.YtmehkdomnhgmeaaT4
import Derived.Test.YtmehkdomnhgmeaaVM30
import Derived.Test.YtmehkdomnhgmeaaRows
import Derived.WalkKit
import Derived.ProofKit
import Derived.OpenShut
import Derived.ShutString
import Derived.ChangeOld
import Derived.Below
import Derived.SizedLaws
namespace Go.Proofs.Ytmehkdomnhgmeaa.primBits
open Go.ChangeShapes Go.WideShapes Go.ChangeAt Go.RowKit Go.VM
open Go.ChangeMaps (open_string shut_string)
set_option linter.unusedVariables false

theorem own : ownKnob Try.prog.godebug = none := by kernel_rfl
theorem laidOut : laidOutB Try.prog = true := by kernel_rfl

set_option maxRecDepth 100000 in
theorem lifted (os : Os) (started : os.Started) (H : Type) (enc : TypeId × Value → H) :
    ReturnsInHanded {} Try.checked os 4 .any (Rows.primBitsSpec.pre6 enc Try.prog Try.f4 Rows.primBitsRow.domain false) (Rows.primBitsSpec.post enc Try.prog Try.f4 false true false false) := by
  refine returnsInHanded_of_change_sized (C := Try.checked) own started (by kernel_rfl) Try.func4
    (ChangeSpec.witness6 (enc := enc) (C := Try.checked) false ⟨#[], #[.slice none 0 0], []⟩ 8 (by kernel_rfl) (by kernel_rfl) (by kernel_rfl) (by kernel_rfl)) ?_
  intro W base args ds gs before hval0 hW hcnd hsz0 _
  have hval : ∀ (j : Nat) t v, Try.f4.params[j]? = some t → args[j]? = some v → Value.okWide Try.prog W .any base t v := hval0
  have hsz : (DataW.weightsEach Try.prog (Try.f4.params.toList ++ Rows.primBitsSpec.plain.varTypes Try.prog) (ds ++ gs)).all (· ≤ reachBytes) = true := hsz0
  have hW' := hW
  obtain ⟨p, q, hA0, hV, rfl, hfz, hnd⟩ := hW
  have hA : DataW.TrodAll enc Try.prog W 0 (fun _ => true) true Try.f4.params.toList args.toList ds p := hA0
  rw [Try.params4] at hA hval hsz
  obtain ⟨v0, vs0, d0, ds0, p0, q0, hargs, rfl, rfl, h0, r0⟩ := trodAll_cons hA
  obtain ⟨rfl, rfl, rfl⟩ := trodAll_nil r0
  obtain rfl : args = #[v0] := by cases args; simp_all
  obtain ⟨rfl, rfl⟩ := trodVars_none hV
  have ok0 := hval 0 22 v0 rfl rfl
  obtain ⟨a0, len0, cap0, rfl⟩ := okWide_slice Try.underlying22 ok0
  have k0 := h0
  have lt0 : ∀ x ∈ p0, x.block < W.heap.size := by obtain ⟨m, hm⟩ := k0; exact DataW.trod_lt m _ _ _ hm
  have R0 : ∃ nl xs, (nl = true → xs = []) ∧ xs.length ≤ 140737488355328 ∧ (∀ x ∈ xs, 0 ≤ x ∧ x < 256) ∧ RepD W noOwn (.slice a0 len0 cap0) (.nums .u8 nl xs) := by
    obtain ⟨fuel, hf⟩ := h0
    rcases open_ints Try.underlying22 Try.underlying5 (by kernel_rfl) hf with ⟨hcs, _⟩ | ⟨x, l, c, zs, hcs, _, hl, hm, hz, hdd, hcell, hwz⟩
    · simp [Value.cells] at hcs
      obtain ⟨rfl, rfl, rfl⟩ := hcs
      exact ⟨true, [], fun _ => rfl, by simp, by simp, rep_nil W .u8⟩
    · simp [Value.cells] at hcs
      obtain ⟨rfl, rfl, rfl⟩ := hcs
      have hd0 := congrArg Prod.fst hdd
      simp only at hd0
      have hb := sized_slice hsz (j := 0) (t := 22) (e := 5) rfl (by rw [hd0]; rfl) Try.underlying22
      rw [show Try.prog.bytesOf 5 = 1 by kernel_rfl] at hb
      simp only [lits, List.length_map, List.length_take, List.length_drop, reachBytes] at hb
      have hs : x.spot = none := by
        simp only [Value.okWide, Try.underlying22, Cell.okWide, Cell.ok, World.has] at ok0
        exact ok0.2.2.2.1
      obtain ⟨b, o, s⟩ := x
      simp only at hs
      subst hs
      simp only [if_true] at hz
      exact ⟨false, _, fun h => (by cases h), (by simp only [List.length_take]; omega), (fun x hx => byte_of_wf (hwz x (List.mem_of_mem_take hx))), rep_row hl hm (by omega) hcell hwz⟩
  clear hA0 hval0
  obtain ⟨nl0, xs0, hn0, hx0, hb0, R0⟩ := R0
  have G : Given W noOwn #[.slice a0 len0 cap0] [.d (.nums .u8 nl0 xs0)] := by
    refine ⟨rfl, fun j x hx => ?_⟩
    cases j with
    | zero => simp at hx; subst hx; exact .d _ _ R0
    | succ j => simp at hx
  refine (call_of envOk (fun g => rfl) (t4 100 0 nl0 xs0 hn0 hx0 hb0) G).mono fun e W' ⟨he, bel⟩ => ?_
  subst he
  exact ⟨_, rfl, _, _, _, [], _, [], hW', trodAll_mk1 (shut_bool Try.underlying4 _), (trodAll_cons_mk (Below.trod laidOut (by kernel_rfl) (of_decide_eq_true (by kernel_rfl)) k0 bel lt0) trodAll_mk0), rfl, bel.frame _, fun h => by cases h⟩

theorem over : Rows.primBitsRow.holds Try.pinned (OpenSpec.ofChange Rows.primBitsSpec) :=
  OpenClaim.holds_of_wide 4 Try.f4 rfl rfl rfl rfl rfl rfl rfl ⟨rfl, rfl, rfl, rfl, rfl⟩ rfl rfl rfl rfl rfl (by kernel_rfl) Try.func4 (by kernel_rfl)
    (of_decide_eq_true (by kernel_rfl)) (by unfold Func.isWrapper; first | (rw [if_pos (by decide +kernel)]; kernel_rfl) | (rw [if_neg (by decide +kernel)]; exact ⟨rfl, rfl⟩))
    (fun os started H enc _ => lifted os started H enc)

theorem proved : Rows.PrimBitsSaid := over
#print axioms proved
end Go.Proofs.Ytmehkdomnhgmeaa.primBits
