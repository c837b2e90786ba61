/- The law PrimBits, reckoned by the machine over values, hands back true: for every row of bytes that memory can hold. -/
import Derived.Test.YtmehkdomnhgmeaaT17
namespace Go.Proofs.Ytmehkdomnhgmeaa
open Go Go.VM
set_option linter.unusedSimpArgs false
set_option linter.unusedVariables false
set_option maxRecDepth 100000
set_option maxHeartbeats 4000000

theorem t4 (fuel n : Nat) (nl : Bool) (xs : List Int) (hn : nl = true → xs = []) (hx : xs.length ≤ 140737488355328) (hb : ∀ x ∈ xs, 0 ≤ x ∧ x < 256) :
    callN env (fuel + 100) (n+3) 4 [.d (.nums .u8 nl xs)] = some ⟨[.d (.bool true)], []⟩ := by
  rw [callN_run (fn := Try.f4) rfl rfl rfl (by simp [Try.ntmps4])]
  generalize hC : env.ctx 4 (callN env (fuel + 100) (n+2)) = C
  have htt : C.tt = env.tt := by rw [← hC]; rfl
  have hlin : C.lin = [] := by rw [← hC]; rfl
  have hcall : C.call = callN env (fuel + 100) (n+2) := by rw [← hC]; rfl
  have k1 : callN env (fuel + 100) (n+2) 16 [.d (.nums .u8 false [3, 248])] = some ⟨[.d (.nums .u8 false [248]), .d (.int .i64 3), .d .nilifc], [0]⟩ := by
    rw [t16 _ _ false [3, 248] (by simp) (by simp) (by simp)]
    simp [bitsOf]
  have k2 := t16 (fuel + 100) n nl xs hn hx hb
  have k3 := t17 fuel (n+1) nl xs hn hx hb
  cases hbits : bitsOf xs with
  | none =>
    simp [hbits] at k2 k3
    simp [htt, hlin, hcall, k1, k2, k3, t18_7, bytesI]
  | some r =>
    obtain ⟨t, x⟩ := r
    simp [hbits] at k2 k3
    simp [htt, hlin, hcall, k1, k2, k3, t18_nil, bytesI]
end Go.Proofs.Ytmehkdomnhgmeaa
