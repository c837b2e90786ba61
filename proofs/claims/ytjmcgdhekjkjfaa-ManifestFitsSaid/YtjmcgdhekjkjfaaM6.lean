/- What manifest.Fits hands back: for all numbers. -/
import Derived.Test.YtjmcgdhekjkjfaaEnv2
import Derived.Test.YtjmcgdhekjkjfaaVM41
import Derived.Test.YtjmcgdhekjkjfaaVM44
namespace Go.Proofs.Ytjmcgdhekjkjfaa
open Go Go.VM
set_option linter.unusedSimpArgs false
set_option linter.unusedVariables false
set_option maxRecDepth 100000
set_option maxHeartbeats 4000000
@[simp] theorem tt3 : env.tt 3 = some { k := .int .i64, size := 1, bytes := 8, zero := [(.int .i64 (0))], cmp := true, eq := true } := rfl
@[simp] theorem tt4 : env.tt 4 = some { k := .bool, size := 1, bytes := 1, zero := [(.bool false)], cmp := true, eq := true } := rfl
@[simp] theorem tt24 : env.tt 24 = some { k := (.struct [(0, 3), (1, 3), (2, 3), (3, 3), (4, 22), (5, 22), (6, 22)]), size := 7, bytes := 104, zero := [(.int .i64 (0)), (.int .i64 (0)), (.int .i64 (0)), (.int .i64 (0)), (.nums .u8 true []), (.nums .u8 true []), (.nums .u8 true [])], cmp := false, eq := true } := rfl
@[simp] theorem tt29 : env.tt 29 = some { k := .int .i64, size := 1, bytes := 8, zero := [(.int .i64 (0))], cmp := true, eq := true } := rfl
@[simp] theorem tt27 : env.tt 27 = some { k := .iface, size := 1, bytes := 16, zero := [.nilifc], cmp := true, eq := true } := rfl
def err (n : Int) : D := .ifc 29 (.int .i64 n)
def man (v c l n : Int) : V := .agg [.d (.int .i64 v), .d (.int .i64 c), .d (.int .i64 l), .d (.int .i64 n), .any, .any, .any]
def okM (l n ram : Int) : Prop := 1 ≤ n ∧ 0 ≤ l ∧ l % 16 = 0 ∧ n ≤ ram ∧ l ≤ ram - n
instance (l n ram : Int) : Decidable (okM l n ram) := by unfold okM; infer_instance

theorem m6 (fuel k : Nat) (v c l n ram : Int) (hl : -9223372036854775808 ≤ l) (hl2 : l ≤ 9223372036854775807) (hr : -9223372036854775808 ≤ ram) (hr2 : ram ≤ 9223372036854775807) :
    callN env fuel (k+1) 6 [man v c l n, .d (.int .i64 ram)] = some (if v < 1 ∨ 64 < v then ⟨[.d (err 16)], []⟩ else if okM l n ram then ⟨[.d .nilifc], []⟩ else ⟨[.d (err 20)], []⟩) := by
  rw [callN_run (fn := Try.f6) rfl rfl rfl (by simp [Try.ntmps6])]
  generalize hC : env.ctx 6 (callN env fuel k) = C
  have htt : C.tt = env.tt := by rw [← hC]; rfl
  have hlin : C.lin = [] := by rw [← hC]; rfl
  unfold err man
  by_cases h1 : v < 1
  · simp [htt, hlin, h1]
  · by_cases h2 : 64 < v
    · simp [htt, hlin, h1, h2]
    · by_cases h3 : n < 1
      · have ho : ¬ okM l n ram := fun h => by obtain ⟨q, _⟩ := h; omega
        simp [htt, hlin, h1, h2, h3, ho]
      · by_cases h4 : l < 0
        · have ho : ¬ okM l n ram := fun h => by obtain ⟨_, q, _⟩ := h; omega
          simp [htt, hlin, h1, h2, h3, h4, ho]
        · have ht : l.tmod 16 = l % 16 := Int.tmod_eq_emod_of_nonneg (by omega)
          have w1 : l % 16 ≤ 9223372036854775807 := by omega
          have w2 : -9223372036854775808 ≤ l % 16 := by omega
          by_cases h5 : l % 16 = 0
          · by_cases h6 : ram < n
            · have ho : ¬ okM l n ram := fun h => by obtain ⟨_, _, _, q, _⟩ := h; omega
              simp [htt, hlin, h1, h2, h3, h4, h5, h6, ht, w1, w2, ho]
            · have w3 : ram - n ≤ 9223372036854775807 := by omega
              have w4 : -9223372036854775808 ≤ ram - n := by omega
              by_cases h7 : ram - n < l
              · have ho : ¬ okM l n ram := fun h => by obtain ⟨_, _, _, _, q⟩ := h; omega
                simp [htt, hlin, h1, h2, h3, h4, h5, h6, h7, ht, w1, w2, w3, w4, ho]
              · have ho : okM l n ram := ⟨by omega, by omega, h5, by omega, by omega⟩
                simp [htt, hlin, h1, h2, h3, h4, h5, h6, h7, ht, w1, w2, w3, w4, ho]
          · have ho : ¬ okM l n ram := fun h => by obtain ⟨_, _, q, _⟩ := h; omega
            simp [htt, hlin, h1, h2, h3, h4, h5, ht, w1, w2, ho]
end Go.Proofs.Ytjmcgdhekjkjfaa
