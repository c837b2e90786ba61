/- What the reference's Number hands back: for every input. -/
import Derived.Test.YtmehkdomnhgmeaaT19
namespace Go.Proofs.Ytmehkdomnhgmeaa
open Go Go.VM
set_option linter.unusedSimpArgs false
set_option linter.unusedVariables false
set_option maxRecDepth 100000
set_option maxHeartbeats 4000000

theorem t20 (fuel n : Nat) (nl : Bool) (xs : List Int) (hn : nl = true → xs = []) (hx : xs.length ≤ 140737488355328) : callN env fuel (n+1) 20 [.d (.nums .u8 nl xs)] = some (match number xs with
    | .inl e => ⟨[.d (.nums .u8 true []), .d (.int .i64 e)], []⟩
    | .inr ys => ⟨[.d (.nums .u8 false ys), .d (.int .i64 0)], []⟩) := by
  rw [callN_run (fn := Try.f20) rfl rfl rfl (by simp [Try.ntmps20])]
  generalize hC : env.ctx 20 (callN env fuel n) = C
  have htt : C.tt = env.tt := by rw [← hC]; rfl
  have hlin : C.lin = [31] := by rw [← hC]; rfl
  rcases xs with _ | ⟨b, _ | ⟨c, t⟩⟩
  · simp [htt, hlin, number]
  · by_cases h1 : 128 ≤ b
    · have h1' : 127 < b := by omega
      simp [htt, hlin, number, h1, h1']
    · have h1' : ¬ 127 < b := by omega
      by_cases h2 : b = 0
      · subst h2
        simp [htt, hlin, number]
      · simp [htt, hlin, number, h1, h1', h2]
  · have e0 : ¬ ((t.length : Int) + 1 + 1 = 0) := by omega
    have e1 : (1 : Int) < (t.length : Int) + 1 + 1 := by omega
    have e5 : (1 : Int) ≤ (t.length : Int) + 1 + 1 := by omega
    have e6 : t.length + 1 + 1 ≤ 140737488355328 := by simpa using hx
    by_cases h1 : 128 ≤ b
    · have h1' : 127 < b := by omega
      simp [htt, hlin, number, h1, h1', e0, e1]
    · have h1' : ¬ 127 < b := by omega
      by_cases h2 : b = 0
      · subst h2
        by_cases h3 : c < 128
        · simp [htt, hlin, number, h3, e0, e1]
        · by_cases h4 : 64 < t.length + 1
          · have e2 : (64 : Int) < (t.length : Int) + 1 := by omega
            simp [htt, hlin, number, h3, h4, e0, e1, e2, e5, e6]
          · have e2 : ¬ (64 : Int) < (t.length : Int) + 1 := by omega
            simp [htt, hlin, number, h3, h4, e0, e1, e2, e5, e6]
      · by_cases h4 : 64 < t.length + 1 + 1
        · have e2 : (64 : Int) < (t.length : Int) + 1 + 1 := by omega
          simp [htt, hlin, number, h1, h1', h2, h4, e0, e1, e2, e6]
        · have e2 : ¬ (64 : Int) < (t.length : Int) + 1 + 1 := by omega
          simp [htt, hlin, number, h1, h1', h2, h4, e0, e1, e2, e6]
end Go.Proofs.Ytmehkdomnhgmeaa
