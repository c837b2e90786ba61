/- The law PrimSmall, reckoned by the machine over values, hands back true: for every input that memory can hold. -/
import Derived.Test.YtmehkdomnhgmeaaT24
namespace Go.Proofs.Ytmehkdomnhgmeaa
open Go Go.VM
set_option linter.unusedSimpArgs false
set_option linter.unusedVariables false
set_option maxRecDepth 100000
set_option maxHeartbeats 4000000

theorem small_err {xs : List Int} {e : Int} (h : small xs = .inl e) : e = 7 ∨ e = 2 ∨ e = 3 := by
  unfold small at h
  split at h
  · rename_i e' he
    cases h
    rcases number_err he with h | h <;> simp [h]
  · repeat' split at h
    all_goals first | (cases h; simp; done) | (cases h; done)

theorem t7 (fuel n : Nat) (nl : Bool) (xs : List Int) (hn : nl = true → xs = []) (hx : xs.length ≤ 140737488355328) (hb : ∀ x ∈ xs, 0 ≤ x ∧ x < 256) : callN env (fuel + 100) (n+4) 7 [.d (.nums .u8 nl xs)] = some ⟨[.d (.bool true)], []⟩ := by
  rw [callN_run (fn := Try.f7) rfl rfl rfl (by simp [Try.ntmps7])]
  generalize hC : env.ctx 7 (callN env (fuel + 100) (n+3)) = C
  have htt : C.tt = env.tt := by rw [← hC]; rfl
  have hlin : C.lin = [] := by rw [← hC]; rfl
  have hcall : C.call = callN env (fuel + 100) (n+3) := by rw [← hC]; rfl
  have a1 := t23 fuel n nl xs hn hb
  have a2 := t24 fuel (n+1) nl xs hn hx hb
  have a3 := t23 fuel n false [5] (by simp) (by simp)
  have k3 : small [5] = .inr 5 := by simp [small, number, val]
  rw [k3] at a3
  have c0 := t18_nil fuel (n+2)
  have c2 := t18_2 fuel (n+2)
  have c3 := t18_3 fuel (n+2)
  have c7 := t18_7 fuel (n+2)
  cases hs : small xs with
  | inl e =>
    rw [hs] at a1 a2
    rcases small_err hs with rfl | rfl | rfl
    · simp [htt, hlin, hcall, a1, a2, a3, c7]
    · simp [htt, hlin, hcall, a1, a2, a3, c2]
    · simp [htt, hlin, hcall, a1, a2, a3, c3]
  | inr v =>
    rw [hs] at a1 a2
    simp [htt, hlin, hcall, a1, a2, a3, c0]
end Go.Proofs.Ytmehkdomnhgmeaa
