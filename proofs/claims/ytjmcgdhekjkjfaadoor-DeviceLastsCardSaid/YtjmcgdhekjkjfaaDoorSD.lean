/- What is laid for the device's statements, as a world tells it. -/
import Derived.Test.YtjmcgdhekjkjfaaDoorSC
import Derived.Test.YtjmcgdhekjkjfaaDoorRows
import Derived.WalkKit
import Derived.ProofKit
import Derived.OpenShut
import Derived.ShutString
import Derived.ChangeOld
import Derived.ChangeSame
import Derived.ChangeVars
import Derived.JoinedOf
import Derived.Below
import Derived.SizedLaws
import Derived.LaidLaws
import Derived.LaidHandle
import Derived.Stop.Joined
import Derived.Test.YtjmcgdhekjkjfaaDoorVMU
import Derived.Lay
namespace Go.Proofs.YtjmcgdhekjkjfaaDoor
open Go.ChangeShapes Go.WideShapes Go.ChangeAt Go.RowKit Go.VM
set_option linter.unusedVariables false
theorem ownD : ownKnob Tryd.prog.godebug = none := by kernel_rfl
theorem laidOutD : laidOutB Tryd.prog = true := by kernel_rfl
theorem gDv_ok : EnvOk Tryd.prog (envG gDv) := envOk gDv (fun f args r h => by
  simp only [gDv] at h
  cases h)
def dvData {H : Type} : List (String × DataW H) := [("math/bits.deBruijn64tab", Rows.laid_math_bits_deBruijn64tab)]
theorem rep_dv' {W : World} (h : laidMet Tryd.prog dvData W) : ∀ g cs, gDv.glob g = some cs → RepC W noOwn g 0 cs := by
  intro g cs hg
  simp only [gDv] at hg
  split at hg
  · rename_i hb
    have hb := Nat.eq_of_beq_eq_true hb
    subst hb; cases hg
    exact rep_laid h (n := "math/bits.deBruijn64tab") (d := Rows.laid_math_bits_deBruijn64tab) (by simp [dvData]) (by kernel_rfl) (t := 205) (by kernel_rfl) (m := 9) (k := 9) (by kernel_rfl) (by kernel_rfl) (by kernel_rfl)
  · cases hg
theorem rep_dv {W : World} (h : laidMetH Tryd.prog dvData W) : ∀ g cs, gDv.glob g = some cs → RepC W noOwn g 0 cs := by
  have h' : laidMet Tryd.prog dvData W := h
  exact rep_dv' h'
noncomputable def dvWorld (os : Os) : World := (World.holding Tryd.prog os ⟨#[], #[], []⟩).layVars Tryd.prog dvData
theorem dvWorld_met (os : Os) (args : Array Value) : laidMetH Tryd.prog dvData ((dvWorld os).forCall (fun _ _ => 0) ⟨#[], args, []⟩).memory :=
  laidMetH_of_parts (laidMet_of_run' 12 (by kernel_rfl) (by kernel_rfl)) (by kernel_rfl)
end Go.Proofs.YtjmcgdhekjkjfaaDoor
