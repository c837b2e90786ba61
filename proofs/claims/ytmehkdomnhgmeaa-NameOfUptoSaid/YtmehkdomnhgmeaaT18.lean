/- What law00.Code hands back of the errors that occur: for these. -/
import Derived.Test.YtmehkdomnhgmeaaT1
import Derived.Test.YtmehkdomnhgmeaaVMS
namespace Go.Proofs.Ytmehkdomnhgmeaa
open Go Go.VM
set_option linter.unusedSimpArgs false
set_option linter.unusedVariables false
set_option maxRecDepth 100000
set_option maxHeartbeats 4000000
theorem t18_nil (fuel n : Nat) : callN env (fuel + 100) (n+1) 18 [.d .nilifc] = some ⟨[.d (.int .i64 0)], []⟩ := by
  rw [callN_run (fn := Try.f18) rfl rfl rfl (by simp [Try.ntmps18])]
  generalize hC : env.ctx 18 (callN env (fuel + 100) n) (callP env (fuel + 100) n) = C
  have htt : C.tt = env.tt := by rw [← hC]; rfl
  have hlin : C.lin = [] := by rw [← hC]; rfl
  simp [htt, hlin]
theorem t18_7 (fuel n : Nat) : callN env (fuel + 100) (n+1) 18 [.d (err 7)] = some ⟨[.d (.int .i64 7)], []⟩ := by
  rw [callN_run (fn := Try.f18) rfl rfl rfl (by simp [Try.ntmps18])]
  generalize hC : env.ctx 18 (callN env (fuel + 100) n) (callP env (fuel + 100) n) = C
  have htt : C.tt = env.tt := by rw [← hC]; rfl
  have hlin : C.lin = [] := by rw [← hC]; rfl
  have hl1 : C.live 4 = [0, 3] := by rw [← hC]; rfl
  have hl2 : C.live 100004 = [2] := by rw [← hC]; rfl
  unfold err
  simp [htt, hlin, ev_loop, iter_eq, hl1, hl2]
theorem t18_2 (fuel n : Nat) : callN env (fuel + 100) (n+1) 18 [.d (err 2)] = some ⟨[.d (.int .i64 2)], []⟩ := by
  rw [callN_run (fn := Try.f18) rfl rfl rfl (by simp [Try.ntmps18])]
  generalize hC : env.ctx 18 (callN env (fuel + 100) n) (callP env (fuel + 100) n) = C
  have htt : C.tt = env.tt := by rw [← hC]; rfl
  have hlin : C.lin = [] := by rw [← hC]; rfl
  have hl1 : C.live 4 = [0, 3] := by rw [← hC]; rfl
  have hl2 : C.live 100004 = [2] := by rw [← hC]; rfl
  unfold err
  simp [htt, hlin, ev_loop, iter_eq, hl1, hl2]
theorem t18_3 (fuel n : Nat) : callN env (fuel + 100) (n+1) 18 [.d (err 3)] = some ⟨[.d (.int .i64 3)], []⟩ := by
  rw [callN_run (fn := Try.f18) rfl rfl rfl (by simp [Try.ntmps18])]
  generalize hC : env.ctx 18 (callN env (fuel + 100) n) (callP env (fuel + 100) n) = C
  have htt : C.tt = env.tt := by rw [← hC]; rfl
  have hlin : C.lin = [] := by rw [← hC]; rfl
  have hl1 : C.live 4 = [0, 3] := by rw [← hC]; rfl
  have hl2 : C.live 100004 = [2] := by rw [← hC]; rfl
  unfold err
  simp [htt, hlin, ev_loop, iter_eq, hl1, hl2]
end Go.Proofs.Ytmehkdomnhgmeaa
