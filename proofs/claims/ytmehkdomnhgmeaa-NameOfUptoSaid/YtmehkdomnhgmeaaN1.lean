/- A name that came in. -/
import Derived.Test.YtmehkdomnhgmeaaT49
import Derived.Test.YtmehkdomnhgmeaaVMR
import Derived.Test.YtmehkdomnhgmeaaRows
import Derived.WalkKit
import Derived.ProofKit
import Derived.OpenShut
import Derived.Below
import Derived.SizedLaws
namespace Go.Proofs.Ytmehkdomnhgmeaa
open Go.ChangeShapes Go.WideShapes Go.ChangeAt Go.RowKit Go.VM
set_option linter.unusedVariables false

theorem laidOut : laidOutB Try.prog = true := by kernel_rfl

theorem name_in {H : Type} {enc : TypeId × Value → H} {W : World} {base : Nat} {a : Option Addr} {len cap : Nat} {d : DataW H} {p : List MemPlace} (ok : Value.okWide Try.prog W .any base 54 (.slice a len cap))
    (h : DataW.Trod enc Try.prog W 0 (fun _ => true) true 54 (.slice a len cap) d p) :
    ∃ nl l, RepD W noOwn (.slice a len cap) (.sl 2 nl (rows l)) ∧ (nl = true → l = []) ∧ (∀ p ∈ l, ∀ c ∈ p.2, 0 ≤ c ∧ c < 256) ∧ (∀ p ∈ l, p.2.length ≤ maxLen) ∧
      (∀ p ∈ l, -9223372036854775808 ≤ p.1 ∧ p.1 ≤ 9223372036854775807) ∧
      (l = [] ∨ ∃ el sp, d = .slice el sp ∧ el.length = l.length) := by
  obtain ⟨fuel, hf⟩ := h
  have hspot : ∀ z, a = some z → z.spot = none := by
    intro z hz
    subst hz
    simp only [Value.okWide, Try.underlying54, Cell.okWide, Cell.ok, World.has] at ok
    exact ok.2.2.2.1
  exact open_pairs Try.underlying54 Try.underlying57 rfl rfl Try.underlying3 Try.underlying9 (by kernel_rfl) (by kernel_rfl) (by kernel_rfl) hspot hf

theorem bulk_one {H : Type} (d : DataW H) : 1 ≤ Rows.uptoBulk d := by
  cases d with
  | lit l => cases l <;> simp [Rows.uptoBulk]
  | _ => simp [Rows.uptoBulk]
theorem bulk_len {H : Type} (l : List (DataW H)) : l.length ≤ Rows.uptoBulkAll l := by
  induction l with
  | nil => simp [Rows.uptoBulkAll]
  | cons x r ih => have := bulk_one x; simp only [Rows.uptoBulkAll, List.length_cons]; omega
theorem bulk_mem {H : Type} {d : DataW H} {l : List (DataW H)} (h : d ∈ l) : Rows.uptoBulk d ≤ Rows.uptoBulkAll l := by
  induction l with
  | nil => cases h
  | cons x r ih =>
    simp only [Rows.uptoBulkAll]
    rcases List.mem_cons.1 h with e | e
    · subst e; omega
    · have := ih e; omega
theorem bulk_le {H : Type} {l : List (DataW H)} (hk : Rows.uptoSmall H l = true) : Rows.uptoBulkAll l ≤ 1048576 := of_decide_eq_true hk
theorem name_len {H : Type} {d : DataW H} {ds : List (DataW H)} {l : List (Int × List Int)} (hk : Rows.uptoSmall H ds = true) (hd : d ∈ ds) (h : l = [] ∨ ∃ el sp, d = .slice el sp ∧ el.length = l.length) : l.length ≤ 1048576 := by
  rcases h with rfl | ⟨el, sp, rfl, h⟩
  · simp
  · have h1 := bulk_le hk
    have h2 := bulk_mem hd
    simp only [Rows.uptoBulk] at h2
    have h3 := bulk_len el
    omega
end Go.Proofs.Ytmehkdomnhgmeaa
