/- The law ManifestFits, reckoned by the machine over values, hands back true: for all numbers. -/
import Derived.Test.YtjmcgdhekjkjfaaM6
namespace Go.Proofs.Ytjmcgdhekjkjfaa
open Go Go.VM
set_option linter.unusedSimpArgs false
set_option linter.unusedVariables false
set_option maxRecDepth 100000
set_option maxHeartbeats 4000000
theorem up0 : callN env 200 20 5 [] = some ⟨[.d (.bool true)], []⟩ := by kernel_rfl
theorem up (fuel n : Nat) (hf : 200 ≤ fuel) (hn : 20 ≤ n) : callN env fuel n 5 [] = some ⟨[.d (.bool true)], []⟩ := callN_mono hf hn up0

theorem m3 (fuel k : Nat) (v c l n ram : Int) (hl : -9223372036854775808 ≤ l) (hl2 : l ≤ 9223372036854775807) (hr : -9223372036854775808 ≤ ram) (hr2 : ram ≤ 9223372036854775807) (hf : 200 ≤ fuel) :
    callN env fuel (k+21) 3 [man v c l n, .d (.int .i64 ram)] = some ⟨[.d (.bool true)], []⟩ := by
  rw [callN_run (fn := Try.f3) rfl rfl rfl (by simp [Try.ntmps3])]
  generalize hC : env.ctx 3 (callN env fuel (k+20)) = C
  have htt : C.tt = env.tt := by rw [← hC]; rfl
  have hlin : C.lin = [] := by rw [← hC]; rfl
  have hcall : C.call = callN env fuel (k+20) := by rw [← hC]; rfl
  have hup := up fuel (k+20) hf (by omega)
  have k6 := m6 fuel (k+19) v c l n ram hl hl2 hr hr2
  unfold err man at k6
  unfold man
  by_cases h1 : v < 1
  · rw [if_pos (.inl h1)] at k6
    simp [htt, hlin, hcall, hup, k6, h1]
  · by_cases h2 : 64 < v
    · rw [if_pos (.inr h2)] at k6
      simp [htt, hlin, hcall, hup, k6, h1, h2]
    · rw [if_neg (by omega)] at k6
      by_cases h3 : n < 1
      · have ho : ¬ okM l n ram := fun h => by obtain ⟨q, _⟩ := h; omega
        rw [if_neg ho] at k6
        have h3' : ¬ (1 ≤ n) := by omega
        simp [htt, hlin, hcall, hup, k6, h1, h2, h3']
      · have h3' : 1 ≤ n := by omega
        by_cases h4 : l < 0
        · have ho : ¬ okM l n ram := fun h => by obtain ⟨_, q, _⟩ := h; omega
          rw [if_neg ho] at k6
          have h4' : ¬ (0 ≤ l) := by omega
          simp [htt, hlin, hcall, hup, k6, h1, h2, h3', h4']
        · have h4' : 0 ≤ l := by omega
          have ht : l.tmod 16 = l % 16 := Int.tmod_eq_emod_of_nonneg (by omega)
          have w1 : l % 16 ≤ 9223372036854775807 := by omega
          have w2 : -9223372036854775808 ≤ l % 16 := by omega
          by_cases h5 : l % 16 = 0
          · by_cases h6 : ram < n
            · have ho : ¬ okM l n ram := fun h => by obtain ⟨_, _, _, q, _⟩ := h; omega
              rw [if_neg ho] at k6
              have h6' : ¬ (n ≤ ram) := by omega
              simp [htt, hlin, hcall, hup, k6, h1, h2, h3', h4', h5, h6', ht, w1, w2]
            · have h6' : n ≤ ram := by omega
              have w3 : ram - n ≤ 9223372036854775807 := by omega
              have w4 : -9223372036854775808 ≤ ram - n := by omega
              by_cases h7 : ram - n < l
              · have ho : ¬ okM l n ram := fun h => by obtain ⟨_, _, _, _, q⟩ := h; omega
                rw [if_neg ho] at k6
                have h7' : ¬ (l ≤ ram - n) := by omega
                simp [htt, hlin, hcall, hup, k6, h1, h2, h3', h4', h5, h6', h7', ht, w1, w2, w3, w4]
              · have ho : okM l n ram := ⟨by omega, by omega, h5, by omega, by omega⟩
                rw [if_pos ho] at k6
                have h7' : l ≤ ram - n := by omega
                simp [htt, hlin, hcall, hup, k6, h1, h2, h3', h4', h5, h6', h7', ht, w1, w2, w3, w4]
          · have ho : ¬ okM l n ram := fun h => by obtain ⟨_, _, q, _⟩ := h; omega
            rw [if_neg ho] at k6
            simp [htt, hlin, hcall, hup, k6, h1, h2, h3', h4', h5, ht, w1, w2]
end Go.Proofs.Ytjmcgdhekjkjfaa
