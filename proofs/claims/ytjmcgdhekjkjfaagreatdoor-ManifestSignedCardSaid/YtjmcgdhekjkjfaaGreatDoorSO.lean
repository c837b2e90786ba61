/- What is laid for the signed manifests, as a world tells it. -/
import Derived.Test.YtjmcgdhekjkjfaaGreatDoorSN
import Derived.Test.YtjmcgdhekjkjfaaGreatDoorRows
import Derived.WalkKit
import Derived.ProofKit
import Derived.OpenShut
import Derived.ShutString
import Derived.ChangeOld
import Derived.ChangeSame
import Derived.ChangeVars
import Derived.JoinedOf
import Derived.Below
import Derived.SizedLaws
import Derived.LaidLaws
import Derived.LaidHandle
import Derived.Stop.Joined
import Derived.Test.YtjmcgdhekjkjfaaGreatDoorVMU
import Derived.Lay
namespace Go.Proofs.YtjmcgdhekjkjfaaGreatDoor
open Go.ChangeShapes Go.WideShapes Go.ChangeAt Go.RowKit Go.VM
set_option linter.unusedVariables false
theorem own : ownKnob Tryz.prog.godebug = none := by kernel_rfl
theorem laidOut : laidOutB Tryz.prog = true := by kernel_rfl
theorem As.et : Tryz.prog.globalNamed "errors.errorType" = some 0 := by kernel_rfl
theorem As.rt : (Tryz.prog.cutTypes.find? (·.1 == "internal/reflectlite.rtype")).map (·.2) = some 157 := by kernel_rfl
theorem As.oneRow : ((List.range 213).filter fun t => Tryz.prog.rowNamed t [101, 114, 114, 111, 114]) = [30] := by kernel_rfl
theorem As.size : Tryz.prog.types.size = 213 := by kernel_rfl
def errLaid {H : Type} : List (String × DataW H) := [("errors.errorType", Rows.laid_errors_errorType)]
theorem handle_of_laid {W : World} (h : laidMetH Tryz.prog errLaid W) : W.cell? ⟨0, 0, none⟩ = some (.iface 157 (.agg #[.pointer (some ⟨2, 30, none⟩)])) := by
  have h' : laidMet Tryz.prog [] W ∧ handlesMet Tryz.prog errLaid W := h
  obtain ⟨name, u, ty, e1, e2, e3, e4, e5⟩ := h'.2 _ (List.mem_singleton.2 rfl)
  have en : name = [101, 114, 114, 111, 114] := (Option.some.inj e1).symm
  subst en
  obtain rfl := Option.some.inj (As.rt.symm.trans e2)
  have hm : ty ∈ (List.range 213).filter fun t => Tryz.prog.rowNamed t [101, 114, 114, 111, 114] := List.mem_filter.2 ⟨List.mem_range.2 (by rw [← As.size]; exact e3), e4⟩
  rw [As.oneRow] at hm
  obtain rfl := List.mem_singleton.1 hm
  have hh : typeHandle Tryz.prog 30 = .pointer (some ⟨2, 30, none⟩) := by kernel_rfl
  rw [hh] at e5
  simpa using World.var?_cell As.et e5 0
theorem rep_errT {W : World} (h : W.cell? ⟨0, 0, none⟩ = some (.iface 157 (.agg #[.pointer (some ⟨2, 30, none⟩)]))) :
    RepC W noOwn 0 0 errT := by
  intro j x hx
  match j, hx with
  | 0, hx =>
    cases hx
    refine ⟨_, ⟨h, fun ow n h => (by cases h), rfl⟩, .ifc _ _ _ (.agg _ _ rfl (fun j hj => ?_) (fun j x hx => ?_))⟩
    · match j, hj with
      | 0, _ => rfl
    · match j, hx with
      | 0, hx => cases hx; exact .rt _ _
theorem gSg_ok : EnvOk Tryz.prog (envG gSg) := envOk gSg (fun f args r h => by
  simp only [gSg, extS] at h
  split at h
  · rename_i hf
    have hf := Nat.eq_of_beq_eq_true hf
    subst hf
    exact is_sound rfl args r h
  · split at h
    · rename_i hf
      have hf := Nat.eq_of_beq_eq_true hf
      subst hf
      exact sub_sound args r h
    · cases h)
def sgData {H : Type} : List (String × DataW H) := [("escutcheon/order.group", Rows.laid_escutcheon_order_group)]
def sgLaid {H : Type} : List (String × DataW H) := ("errors.errorType", Rows.laid_errors_errorType) :: sgData
theorem sg_parts {W : World} (h : laidMetH Tryz.prog sgLaid W) : laidMet Tryz.prog sgData W ∧ handlesMet Tryz.prog [("errors.errorType", Rows.laid_errors_errorType)] W := h
theorem sg_handle {W : World} (h : handlesMet Tryz.prog [("errors.errorType", Rows.laid_errors_errorType)] W) : laidMetH Tryz.prog errLaid W := by
  have h0 : laidMet Tryz.prog [] W := laidMet_nil _ _
  exact ⟨h0, h⟩
theorem rep_sg {W : World} (h : laidMetH Tryz.prog sgLaid W) : ∀ g cs, gSg.glob g = some cs → RepC W noOwn g 0 cs := by
  intro g cs hg
  obtain ⟨h1, h2⟩ := sg_parts h
  simp only [gSg, dataS] at hg
  split at hg
  · rename_i hb
    have hb' := Nat.eq_of_beq_eq_true hb
    subst hb'
    cases hg
    exact rep_errT (handle_of_laid (sg_handle h2))
  · split at hg
    · rename_i hb
      have hb := Nat.eq_of_beq_eq_true hb
      subst hb; cases hg
      exact rep_laid h1 (n := "escutcheon/order.group") (d := Rows.laid_escutcheon_order_group) (by simp [sgData]) (by kernel_rfl) (t := 179) (by kernel_rfl) (m := 9) (k := 9) (by kernel_rfl) (by kernel_rfl) (by kernel_rfl)
    · cases hg
noncomputable def sgWorld (os : Os) : World :=
  let w0 := (World.holding Tryz.prog os ⟨#[], #[], []⟩).layVars Tryz.prog sgData
  { w0 with heap := w0.heap.modify 0 fun
      | .cells _ t frozen => .cells #[.iface 157 (.agg #[.pointer (some ⟨2, 30, none⟩)])] t frozen
      | o => o }
theorem sgWorld_met (os : Os) (args : Array Value) : laidMetH Tryz.prog sgLaid ((sgWorld os).forCall (fun _ _ => 0) ⟨#[], args, []⟩).memory :=
  laidMetH_of_parts (laidMet_of_run' 12 (by kernel_rfl) (by kernel_rfl)) (by kernel_rfl)
end Go.Proofs.YtjmcgdhekjkjfaaGreatDoor
