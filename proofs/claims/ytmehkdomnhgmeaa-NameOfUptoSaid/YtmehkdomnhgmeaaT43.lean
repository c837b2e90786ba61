/- What slices.Clone hands back, of bytes: for every input. -/
import Derived.Test.YtmehkdomnhgmeaaT18
namespace Go.Proofs.Ytmehkdomnhgmeaa
open Go Go.VM
set_option linter.unusedSimpArgs false
set_option linter.unusedVariables false
set_option maxRecDepth 100000
set_option maxHeartbeats 4000000
theorem t43_nil (fuel n : Nat) : callN env fuel (n+1) 43 [.d (.nums .u8 true [])] = some ⟨[.d (.nums .u8 true [])], []⟩ := by
  rw [callN_run (fn := Try.f43) rfl rfl rfl (by simp [Try.ntmps43])]
  generalize hC : env.ctx 43 (callN env fuel n) (callP env fuel n) = C
  have htt : C.tt = env.tt := by rw [← hC]; rfl
  have hlin : C.lin = [5] := by rw [← hC]; rfl
  simp [htt, hlin]
theorem t43 (fuel n : Nat) (xs : List Int) (h : xs.length ≤ 140737488355328) : callN env fuel (n+1) 43 [.d (.nums .u8 false xs)] = some ⟨[.d (.nums .u8 false xs)], [0]⟩ := by
  rw [callN_run (fn := Try.f43) rfl rfl rfl (by simp [Try.ntmps43])]
  generalize hC : env.ctx 43 (callN env fuel n) (callP env fuel n) = C
  have htt : C.tt = env.tt := by rw [← hC]; rfl
  have hlin : C.lin = [5] := by rw [← hC]; rfl
  simp [htt, hlin, h]
end Go.Proofs.Ytmehkdomnhgmeaa
