/- What prim.NumberOf hands back: for every input. -/
import Derived.Test.YtmehkdomnhgmeaaT20
namespace Go.Proofs.Ytmehkdomnhgmeaa
open Go Go.VM
set_option linter.unusedSimpArgs false
set_option linter.unusedVariables false
set_option maxRecDepth 100000
set_option maxHeartbeats 4000000

/-- Without the noughts ahead. -/
def strip : List Int → List Int
  | [] => []
  | b :: t => if b = 0 then strip t else b :: t
theorem strip_len : ∀ xs : List Int, (strip xs).length ≤ xs.length
  | [] => by simp [strip]
  | b :: t => by
    unfold strip
    split
    · have := strip_len t; simp; omega
    · simp

/-- The body of a number, or that it is too long. -/
def numberOf (xs : List Int) : Sum Int (List Int) :=
  if 64 < (strip xs).length then .inl 2 else match strip xs with
    | [] => .inr [0]
    | b :: t => if 128 ≤ b then .inr (0 :: b :: t) else .inr (b :: t)

theorem loop21 {C : Ctx} (htt : C.tt = env.tt) (hlin : C.lin = [30]) {fuel : Nat} {c : Code} (hc : loopAt 1 Try.f21 = some c) (nl : Bool) :
    ∀ (xs : List Int) (k : Nat) (st : St), xs.length < k → st.trim 0 [0] = ⟨[(0, .d (.nums .u8 nl xs))], [], []⟩ →
      iter (ev C fuel c) 0 [0] [0, 2, 3] k st = some (.exit 0, ⟨[(0, .d (.nums .u8 nl (strip xs)))], [], []⟩) := by
  simp [loopAt, findLoop, Try.f21] at hc
  subst hc
  intro xs
  induction xs with
  | nil =>
    intro k st hk hst
    obtain ⟨k, rfl⟩ : ∃ j, k = j + 1 := ⟨k - 1, by simp at hk; omega⟩
    rw [iter_eq, hst]
    simp [htt, hlin, strip]
  | cons b t ih =>
    intro k st hk hst
    obtain ⟨k, rfl⟩ : ∃ j, k = j + 1 := ⟨k - 1, by simp at hk; omega⟩
    simp at hk
    rw [iter_eq, hst]
    have e1 : (0 : Int) < (t.length : Int) + 1 := by omega
    have e2 : (1 : Int) ≤ (t.length : Int) + 1 := by omega
    by_cases h : b = 0
    · subst h
      simp [htt, hlin, e1, e2, strip, ih k _ hk]
    · simp [htt, hlin, h, e1, e2, strip]

theorem t21 (fuel n : Nat) (nl : Bool) (xs : List Int) (hn : nl = true → xs = []) (hf : xs.length < fuel) : callN env fuel (n+2) 21 [.d (.nums .u8 nl xs)] = some (match numberOf xs with
    | .inl e => ⟨[.d (.nums .u8 true []), .d (err e)], []⟩
    | .inr ys => ⟨[.d (.nums .u8 false ys), .d .nilifc], [0]⟩) := by
  rw [callN_run (fn := Try.f21) rfl rfl rfl (by simp [Try.ntmps21])]
  generalize hC : env.ctx 21 (callN env fuel (n+1)) = C
  have htt : C.tt = env.tt := by rw [← hC]; rfl
  have hlin : C.lin = [30] := by rw [← hC]; rfl
  have hcall : C.call = callN env fuel (n+1) := by rw [← hC]; rfl
  have hl1 : C.live 1 = [0] := by rw [← hC]; rfl
  have hl2 : C.live 100001 = [0, 2, 3] := by rw [← hC]; rfl
  have hL := fun nl xs k st h => @loop21 C htt hlin fuel _ rfl nl xs k st h
  have hs := strip_len xs
  unfold err numberOf
  by_cases h1 : 64 < (strip xs).length
  · have e1 : (64 : Int) < ((strip xs).length : Int) := by omega
    simp [htt, hlin, hcall, ev_loop, hl1, hl2, hL nl xs _ _ hf, h1, e1]
  · have e1 : ¬ (64 : Int) < ((strip xs).length : Int) := by omega
    cases hsx : strip xs with
    | nil =>
      simp [htt, hlin, hcall, ev_loop, hl1, hl2, hL nl xs _ _ hf, hsx]
    | cons b t =>
      have hnl : nl = false := by
        cases nl with
        | false => rfl
        | true => rw [hn rfl] at hsx; simp [strip] at hsx
      subst hnl
      rw [hsx] at h1 e1
      simp at h1 e1
      have e2 : ¬ ((t.length : Int) + 1 = 0) := by omega
      have e3 : ¬ (64 < t.length + 1) := by omega
      have e4 : t.length + 1 ≤ 140737488355328 := by omega
      have e5 : ¬ ((64 : Int) < (t.length : Int) + 1) := by omega
      have e6 : 1 + (t.length + 1) ≤ 140737488355328 := by omega
      by_cases h2 : 128 ≤ b
      · simp [htt, hlin, hcall, ev_loop, hl1, hl2, hL false xs _ _ hf, hsx, h2, e2, e3, e4, e5, e6]
      · simp [htt, hlin, hcall, ev_loop, hl1, hl2, hL false xs _ _ hf, hsx, h2, e2, e3, e4, e5, e6, t43]
end Go.Proofs.Ytmehkdomnhgmeaa
