/- The law PrimNumberOf, reckoned by the machine over values, hands back true: for every input that memory can hold. -/
import Derived.Test.YtmehkdomnhgmeaaT22
import Derived.Test.YtmehkdomnhgmeaaT5
namespace Go.Proofs.Ytmehkdomnhgmeaa
open Go Go.VM
set_option linter.unusedSimpArgs false
set_option linter.unusedVariables false
set_option maxRecDepth 100000
set_option maxHeartbeats 4000000

theorem strip_head : ∀ {xs t : List Int} {b : Int}, strip xs = b :: t → b ≠ 0
  | [], t, b, h => by simp [strip] at h
  | c :: xs, t, b, h => by
    unfold strip at h
    split at h
    · exact strip_head h
    · cases h; assumption

theorem numberOf_err {xs : List Int} {e : Int} (h : numberOf xs = .inl e) : e = 2 := by
  unfold numberOf at h
  repeat' split at h
  all_goals first | (cases h; rfl) | (cases h; done)

theorem numberOf_back {xs ys : List Int} (h : numberOf xs = .inr ys) : ∃ ms, number ys = .inr ms ∧ numberOf ms = .inr ys ∧ ms.length ≤ 65 := by
  unfold numberOf at h
  split at h
  · cases h
  · rename_i hl
    split at h
    · cases h
      exact ⟨[], by simp [number], by simp [numberOf, strip], by simp⟩
    · rename_i b t hs
      have h0 := strip_head hs
      rw [hs] at hl
      simp at hl
      have h64 : ¬ 64 < t.length + 1 := by omega
      have hs' : strip (b :: t) = b :: t := by simp [strip, h0]
      split at h
      · rename_i h1
        cases h
        have h2 : ¬ b < 128 := by omega
        exact ⟨b :: t, by simp [number, h2, h64], by simp [numberOf, hs', h64, h1], by simp; omega⟩
      · rename_i h1
        cases h
        refine ⟨b :: t, ?_, by simp [numberOf, hs', h64, h1], by simp; omega⟩
        cases t with
        | nil => simp [number, h0, h1]
        | cons c t =>
          simp at h64
          have : ¬ 64 < t.length + 1 + 1 := by omega
          simp [number, h0, h1, this]

theorem t6 (fuel n : Nat) (nl : Bool) (xs : List Int) (hn : nl = true → xs = []) (hx : xs.length ≤ 140737488355328) : callN env (fuel + 140737488355428) (n+3) 6 [.d (.nums .u8 nl xs)] = some ⟨[.d (.bool true)], []⟩ := by
  rw [callN_run (fn := Try.f6) rfl rfl rfl (by simp [Try.ntmps6])]
  obtain ⟨F, hF⟩ : ∃ F, F = fuel + 140737488355428 := ⟨_, rfl⟩
  rw [← hF]
  generalize hC : env.ctx 6 (callN env F (n+2)) = C
  have htt : C.tt = env.tt := by rw [← hC]; rfl
  have hlin : C.lin = [] := by rw [← hC]; rfl
  have hcall : C.call = callN env F (n+2) := by rw [← hC]; rfl
  have a1 := t21 F n nl xs hn (by omega)
  have a2 := t22 F (n+1) nl xs hx (by omega)
  have a3 := t21 F n false [0, 5] (by simp) (by simp; omega)
  have k3 : numberOf [0, 5] = .inr [5] := by simp [numberOf, strip]
  rw [k3] at a3
  have c0 : callN env F (n+2) 18 [.d .nilifc] = some ⟨[.d (.int .i64 0)], []⟩ := by
    rw [show F = (fuel + 140737488355328) + 100 by omega]; exact t18_nil _ _
  have c2 : callN env F (n+2) 18 [.d (err 2)] = some ⟨[.d (.int .i64 2)], []⟩ := by
    rw [show F = (fuel + 140737488355328) + 100 by omega]; exact t18_2 _ _
  cases hnum : numberOf xs with
  | inl e =>
    have := numberOf_err hnum
    subst this
    rw [hnum] at a1 a2
    simp [htt, hlin, hcall, a1, a2, a3, c2, bytesI]
  | inr ys =>
    rw [hnum] at a1 a2
    obtain ⟨ms, h1, h2, h3⟩ := numberOf_back hnum
    have a4 := t19 F n false ys (by simp)
    rw [h1] at a4
    have a5 := t21 F n false ms (by simp) (by omega)
    rw [h2] at a5
    cases hsx : strip xs with
    | nil =>
      rw [hsx] at a2
      simp [htt, hlin, hcall, a1, a2, a3, a4, a5, c0, bytesI]
    | cons b t =>
      rw [hsx] at a2
      by_cases hb : 128 ≤ b
      · simp only [hb, if_true] at a2
        simp [htt, hlin, hcall, a1, a2, a3, a4, a5, c0, bytesI]
      · simp only [hb, if_false] at a2
        simp [htt, hlin, hcall, a1, a2, a3, a4, a5, c0, bytesI]
end Go.Proofs.Ytmehkdomnhgmeaa
