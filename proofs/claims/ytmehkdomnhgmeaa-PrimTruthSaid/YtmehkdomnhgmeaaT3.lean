/- The law PrimTruth, reckoned by the machine over values, hands back true: for every input. -/
import Derived.Test.YtmehkdomnhgmeaaT1
namespace Go.Proofs.Ytmehkdomnhgmeaa
open Go Go.VM
set_option maxRecDepth 100000
set_option maxHeartbeats 4000000
theorem t3 (fuel n : Nat) (nl : Bool) (xs : List Int) : callN env fuel (n+2) 3 [.d (.nums .u8 nl xs)] = some ⟨[.d (.bool true)], []⟩ := by
  rw [callN_run (fn := Try.f3) rfl rfl rfl (by simp [Try.ntmps3])]
  generalize hC : env.ctx 3 (callN env fuel (n+1)) = C
  have htt : C.tt = env.tt := by rw [← hC]; rfl
  have hlin : C.lin = [] := by rw [← hC]; rfl
  have hcall : C.call = callN env fuel (n+1) := by rw [← hC]; rfl
  rcases xs with _ | ⟨b, _ | ⟨c, t⟩⟩
  · simp [htt, hlin, hcall, t15, truthR, err, bytesI]
  · by_cases h0 : b = 0
    · subst h0
      simp [htt, hlin, hcall, t15, truthR, err, bytesI]
    · by_cases h1 : b = 255
      · subst h1
        simp [htt, hlin, hcall, t15, truthR, err, bytesI]
      · simp [htt, hlin, hcall, t15, truthR, err, bytesI, h0, h1]
  · simp [htt, hlin, hcall, t15, truthR, err, bytesI]
end Go.Proofs.Ytmehkdomnhgmeaa
