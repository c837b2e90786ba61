/- What prim.Number and the reference's Number hand back: for every input. -/
import Derived.Test.YtmehkdomnhgmeaaT43
namespace Go.Proofs.Ytmehkdomnhgmeaa
open Go Go.VM
set_option linter.unusedSimpArgs false
set_option linter.unusedVariables false
set_option maxRecDepth 100000
set_option maxHeartbeats 4000000

/-- The bytes of a number's body, or what is amiss. -/
def number (xs : List Int) : Sum Int (List Int) :=
  match xs with
  | [] => .inl 7
  | [b] => if 128 ≤ b then .inl 7 else if b = 0 then .inr [] else .inr [b]
  | b :: c :: t => if 128 ≤ b then .inl 7 else if b = 0 then (if c < 128 then .inl 7 else if 64 < (c :: t).length then .inl 2 else .inr (c :: t))
    else if 64 < (b :: c :: t).length then .inl 2 else .inr (b :: c :: t)

theorem t19 (fuel n : Nat) (nl : Bool) (xs : List Int) (hn : nl = true → xs = []) : callN env fuel (n+2) 19 [.d (.nums .u8 nl xs)] = some (match number xs with
    | .inl e => ⟨[.d (.nums .u8 true []), .d (err e)], []⟩
    | .inr ys => ⟨[.d (.nums .u8 false ys), .d .nilifc], [0]⟩) := by
  rw [callN_run (fn := Try.f19) rfl rfl rfl (by simp [Try.ntmps19])]
  generalize hC : env.ctx 19 (callN env fuel (n+1)) = C
  have htt : C.tt = env.tt := by rw [← hC]; rfl
  have hlin : C.lin = [] := by rw [← hC]; rfl
  have hcall : C.call = callN env fuel (n+1) := by rw [← hC]; rfl
  unfold err
  rcases xs with _ | ⟨b, _ | ⟨c, t⟩⟩
  · simp [htt, hlin, hcall, number]
  · have hnl : nl = false := by cases nl <;> simp at hn ⊢
    subst hnl
    by_cases h1 : 128 ≤ b
    · simp [htt, hlin, hcall, number, h1]
    · by_cases h2 : b = 0
      · subst h2
        simp [htt, hlin, hcall, number, t43]
      · simp [htt, hlin, hcall, number, h1, h2, t43]
  · have hnl : nl = false := by cases nl <;> simp at hn ⊢
    subst hnl
    have e0 : ¬ ((t.length : Int) + 1 + 1 = 0) := by omega
    have e1 : (1 : Int) < (t.length : Int) + 1 + 1 := by omega
    have e5 : (1 : Int) ≤ (t.length : Int) + 1 + 1 := by omega
    by_cases h1 : 128 ≤ b
    · simp [htt, hlin, hcall, number, h1, e0, e1, e5]
    · by_cases h2 : b = 0
      · subst h2
        by_cases h3 : c < 128
        · simp [htt, hlin, hcall, number, h3, e0, e1, e5]
        · by_cases h4 : 64 < t.length + 1
          · have e2 : (64 : Int) < (t.length : Int) + 1 := by omega
            simp [htt, hlin, hcall, number, h3, h4, e0, e1, e5, e2]
          · have e2 : ¬ (64 : Int) < (t.length : Int) + 1 := by omega
            have e3 : t.length + 1 ≤ 140737488355328 := by omega
            have e4 : (0 : Int) ≤ (t.length : Int) + 1 := by omega
            simp [htt, hlin, hcall, number, h3, h4, t43, e0, e1, e5, e2, e3, e4]
      · by_cases h4 : 64 < t.length + 1 + 1
        · have e2 : (64 : Int) < (t.length : Int) + 1 + 1 := by omega
          simp [htt, hlin, hcall, number, h1, h2, h4, e0, e1, e5, e2]
        · have e2 : ¬ (64 : Int) < (t.length : Int) + 1 + 1 := by omega
          have e3 : t.length + 1 + 1 ≤ 140737488355328 := by omega
          simp [htt, hlin, hcall, number, h1, h2, h4, t43, e0, e1, e5, e2, e3]
end Go.Proofs.Ytmehkdomnhgmeaa
