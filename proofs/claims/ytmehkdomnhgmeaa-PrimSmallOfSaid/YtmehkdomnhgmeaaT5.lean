/- The law PrimNumbers, reckoned by the machine over values, hands back true: for every input that memory can hold. -/
import Derived.Test.YtmehkdomnhgmeaaT20
namespace Go.Proofs.Ytmehkdomnhgmeaa
open Go Go.VM
set_option linter.unusedSimpArgs false
set_option linter.unusedVariables false
set_option maxRecDepth 100000
set_option maxHeartbeats 4000000

theorem number_err {xs : List Int} {e : Int} (h : number xs = .inl e) : e = 7 ∨ e = 2 := by
  unfold number at h
  repeat' split at h
  all_goals first | (cases h; simp; done) | (cases h; done)

theorem t5 (fuel n : Nat) (nl : Bool) (xs : List Int) (hn : nl = true → xs = []) (hx : xs.length ≤ 140737488355328) : callN env (fuel + 100) (n+3) 5 [.d (.nums .u8 nl xs)] = some ⟨[.d (.bool true)], []⟩ := by
  rw [callN_run (fn := Try.f5) rfl rfl rfl (by simp [Try.ntmps5])]
  generalize hC : env.ctx 5 (callN env (fuel + 100) (n+2)) = C
  have htt : C.tt = env.tt := by rw [← hC]; rfl
  have hlin : C.lin = [] := by rw [← hC]; rfl
  have hcall : C.call = callN env (fuel + 100) (n+2) := by rw [← hC]; rfl
  have k1 : number [0, 128] = .inr [128] := by simp [number]
  cases hnum : number xs with
  | inl e =>
    rcases number_err hnum with rfl | rfl
    · simp [htt, hlin, hcall, t19, t20 (nl := nl) (xs := xs) _ _ hn hx, t19 (nl := nl) (xs := xs) _ _ hn, k1, hnum, t18_7, bytesI]
    · simp [htt, hlin, hcall, t19, t20 (nl := nl) (xs := xs) _ _ hn hx, t19 (nl := nl) (xs := xs) _ _ hn, k1, hnum, t18_2, bytesI]
  | inr ys =>
    simp [htt, hlin, hcall, t19, t20 (nl := nl) (xs := xs) _ _ hn hx, t19 (nl := nl) (xs := xs) _ _ hn, k1, hnum, t18_nil, bytesI]
end Go.Proofs.Ytmehkdomnhgmeaa
