/- What is laid for the statements of layer 14, as a world tells it. -/
import Derived.Test.YtjmcgdhekjkjfaaDoorSM
import Derived.Test.YtjmcgdhekjkjfaaDoorSC
import Derived.Test.YtjmcgdhekjkjfaaDoorSI
import Derived.Test.YtjmcgdhekjkjfaaDoorVMU
import Derived.Lay
namespace Go.Proofs.YtjmcgdhekjkjfaaDoor
open Go.ChangeShapes Go.WideShapes Go.ChangeAt Go.RowKit Go.VM
set_option linter.unusedVariables false
theorem gEs_ok : EnvOk Tryd.prog (envG gEs) := envOk gEs (fun f args r h => by
  simp only [gEs, extE] at h
  split at h
  · rename_i hf
    have hf := Nat.eq_of_beq_eq_true hf
    subst hf
    exact is_sound rfl args r h
  split at h
  · rename_i hf
    have hf := Nat.eq_of_beq_eq_true hf
    subst hf
    exact add_sound args r h
  split at h
  · rename_i hf
    have hf := Nat.eq_of_beq_eq_true hf
    subst hf
    exact sub_sound args r h
  split at h
  · rename_i hf
    have hf := Nat.eq_of_beq_eq_true hf
    subst hf
    exact lAdd_sound args r h
  split at h
  · rename_i hf
    have hf := Nat.eq_of_beq_eq_true hf
    subst hf
    exact lSub_sound args r h
  split at h
  · rename_i hf
    have hf := Nat.eq_of_beq_eq_true hf
    subst hf
    exact same_sound rfl args r h
  · cases h)
def ecData {H : Type} : List (String × DataW H) := [("escutcheon/field.prime", Rows.laid_escutcheon_field_prime), ("escutcheon/order.group", Rows.laid_escutcheon_order_group), ("escutcheon/proj.prime", Rows.laid_escutcheon_proj_prime), ("escutcheon/proj.curveB", Rows.laid_escutcheon_proj_curveB), ("escutcheon/proj.one", Rows.laid_escutcheon_proj_one), ("escutcheon/curve.base", Rows.laid_escutcheon_curve_base)]
def ecLaid {H : Type} : List (String × DataW H) := ("errors.errorType", Rows.laid_errors_errorType) :: ecData
theorem ec_parts {W : World} (h : laidMetH Tryd.prog ecLaid W) : laidMet Tryd.prog ecData W ∧ handlesMet Tryd.prog [("errors.errorType", Rows.laid_errors_errorType)] W := h
theorem ec_handle {W : World} (h : handlesMet Tryd.prog [("errors.errorType", Rows.laid_errors_errorType)] W) : laidMetH Tryd.prog errLaid W := by
  have h0 : laidMet Tryd.prog [] W := laidMet_nil _ _
  exact ⟨h0, h⟩
theorem rep_data {W : World} (h : laidMet Tryd.prog ecData W) : ∀ g cs, dataE g = some cs → RepC W noOwn g 0 cs := by
  intro g cs hg
  unfold dataE at hg
  split at hg
  · rename_i hb
    have hb := Nat.eq_of_beq_eq_true hb
    subst hb; cases hg
    exact rep_laid h (n := "escutcheon/order.group") (d := Rows.laid_escutcheon_order_group) (by simp [ecData]) (by kernel_rfl) (t := 146) (by kernel_rfl) (m := 9) (k := 9) (by kernel_rfl) (by kernel_rfl) (by kernel_rfl)
  split at hg
  · rename_i hb
    have hb := Nat.eq_of_beq_eq_true hb
    subst hb; cases hg
    exact rep_laid h (n := "escutcheon/field.prime") (d := Rows.laid_escutcheon_field_prime) (by simp [ecData]) (by kernel_rfl) (t := 146) (by kernel_rfl) (m := 9) (k := 9) (by kernel_rfl) (by kernel_rfl) (by kernel_rfl)
  split at hg
  · rename_i hb
    have hb := Nat.eq_of_beq_eq_true hb
    subst hb; cases hg
    exact rep_laid h (n := "escutcheon/proj.prime") (d := Rows.laid_escutcheon_proj_prime) (by simp [ecData]) (by kernel_rfl) (t := 146) (by kernel_rfl) (m := 9) (k := 9) (by kernel_rfl) (by kernel_rfl) (by kernel_rfl)
  split at hg
  · rename_i hb
    have hb := Nat.eq_of_beq_eq_true hb
    subst hb; cases hg
    exact rep_laid h (n := "escutcheon/proj.curveB") (d := Rows.laid_escutcheon_proj_curveB) (by simp [ecData]) (by kernel_rfl) (t := 64) (by kernel_rfl) (m := 9) (k := 9) (by kernel_rfl) (by kernel_rfl) (by kernel_rfl)
  split at hg
  · rename_i hb
    have hb := Nat.eq_of_beq_eq_true hb
    subst hb; cases hg
    exact rep_laid h (n := "escutcheon/proj.one") (d := Rows.laid_escutcheon_proj_one) (by simp [ecData]) (by kernel_rfl) (t := 64) (by kernel_rfl) (m := 9) (k := 9) (by kernel_rfl) (by kernel_rfl) (by kernel_rfl)
  split at hg
  · rename_i hb
    have hb := Nat.eq_of_beq_eq_true hb
    subst hb; cases hg
    exact rep_laid h (n := "escutcheon/curve.base") (d := Rows.laid_escutcheon_curve_base) (by simp [ecData]) (by kernel_rfl) (t := 90) (by kernel_rfl) (m := 9) (k := 9) (by kernel_rfl) (by kernel_rfl) (by kernel_rfl)
  · cases hg
theorem rep_ec {W : World} (h : laidMetH Tryd.prog ecLaid W) : ∀ g cs, gEs.glob g = some cs → RepC W noOwn g 0 cs := by
  intro g cs hg
  obtain ⟨h1, h2⟩ := ec_parts h
  simp only [gEs] at hg
  split at hg
  · rename_i hb
    have hb' := Nat.eq_of_beq_eq_true hb
    subst hb'
    exact rep_err (handle_of_laid (ec_handle h2)) _ cs hg
  · exact rep_data h1 g cs hg
noncomputable def ecWorld (os : Os) : World :=
  let w0 := (World.holding Tryd.prog os ⟨#[], #[], []⟩).layVars Tryd.prog ecData
  { w0 with heap := w0.heap.modify 1 fun
      | .cells _ t frozen => .cells #[.iface 189 (.agg #[.pointer (some ⟨8, 28, none⟩)])] t frozen
      | o => o }
theorem ecWorld_met (os : Os) (args : Array Value) : laidMetH Tryd.prog ecLaid ((ecWorld os).forCall (fun _ _ => 0) ⟨#[], args, []⟩).memory :=
  laidMetH_of_parts (laidMet_of_run' 12 (by kernel_rfl) (by kernel_rfl)) (by kernel_rfl)
end Go.Proofs.YtjmcgdhekjkjfaaDoor
