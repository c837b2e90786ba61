/- What the reference's NumberOf hands back: for every input. -/
import Derived.Test.YtmehkdomnhgmeaaT21
namespace Go.Proofs.Ytmehkdomnhgmeaa
open Go Go.VM
set_option linter.unusedSimpArgs false
set_option linter.unusedVariables false
set_option maxRecDepth 100000
set_option maxHeartbeats 4000000

/-- How many noughts stand ahead. -/
def lead : List Int → Nat
  | [] => 0
  | b :: t => if b = 0 then lead t + 1 else 0
theorem drop_lead : ∀ xs : List Int, xs.drop (lead xs) = strip xs
  | [] => rfl
  | b :: t => by
    unfold lead strip
    split
    · simpa using drop_lead t
    · rfl
theorem lead_le : ∀ xs : List Int, lead xs ≤ xs.length
  | [] => by simp [lead]
  | b :: t => by
    unfold lead
    split
    · have := lead_le t; simp; omega
    · simp

theorem loop22 {C : Ctx} (htt : C.tt = env.tt) (hlin : C.lin = [19, 36]) {fuel : Nat} {c : Code} (hc : loopAt 2 Try.f22 = some c) (nl : Bool) (xs : List Int) (hx : xs.length ≤ 140737488355328) :
    ∀ (ys : List Int) (i k : Nat) (st : St), xs.drop i = ys → i ≤ xs.length → ys.length < k → st.trim 0 [0, 4] = ⟨[(0, .d (.nums .u8 nl xs)), (4, .d (.int .i64 i))], [], []⟩ →
      iter (ev C fuel c) 0 [0, 4] [0, 2, 3, 4] k st = some (.exit 0, ⟨[(0, .d (.nums .u8 nl xs)), (4, .d (.int .i64 (i + lead ys : Nat)))], [], []⟩) := by
  simp [loopAt, findLoop, Try.f22] at hc
  subst hc
  intro ys
  induction ys with
  | nil =>
    intro i k st hd hi hk hst
    obtain ⟨k, rfl⟩ : ∃ j, k = j + 1 := ⟨k - 1, by simp at hk; omega⟩
    have h0 : xs.length ≤ i := by simpa using hd
    have e0 : ¬ ((i : Int) < (xs.length : Int)) := by omega
    rw [iter_eq, hst]
    simp [htt, hlin, e0, lead]
  | cons b t ih =>
    intro i k st hd hi hk hst
    obtain ⟨k, rfl⟩ : ∃ j, k = j + 1 := ⟨k - 1, by simp at hk; omega⟩
    simp at hk
    have h0 : i < xs.length := by
      rcases Nat.lt_or_ge i xs.length with h | h
      · exact h
      · rw [List.drop_eq_nil_of_le h] at hd; cases hd
    have hb : xs[i]? = some b := by
      have : (xs.drop i)[0]? = some b := by rw [hd]; rfl
      simpa using this
    have ht : xs.drop (i + 1) = t := by
      rw [← List.drop_drop, hd]; rfl
    have e0 : (i : Int) < (xs.length : Int) := by omega
    have e1 : (i : Int) + 1 ≤ 9223372036854775807 := by omega
    have e2 : (-9223372036854775808 : Int) ≤ (i : Int) + 1 := by omega
    rw [iter_eq, hst]
    by_cases h : b = 0
    · subst h
      have ih' := fun st h => ih (i + 1) k st ht (by omega) hk h
      rw [show i + 1 + lead t = i + (lead t + 1) by omega] at ih'
      simp [htt, hlin, e0, hb, e1, e2, ih', lead]
    · simp [htt, hlin, e0, hb, h, lead]

theorem t22 (fuel n : Nat) (nl : Bool) (xs : List Int) (hx : xs.length ≤ 140737488355328) (hf : xs.length < fuel) : callN env fuel (n+1) 22 [.d (.nums .u8 nl xs)] = some (match numberOf xs with
    | .inl e => ⟨[.d (.nums .u8 true []), .d (.int .i64 e)], []⟩
    | .inr ys => ⟨[.d (.nums .u8 false ys), .d (.int .i64 0)], (match strip xs with | [] => [0] | b :: _ => if 128 ≤ b then [0] else [])⟩) := by
  rw [callN_run (fn := Try.f22) rfl rfl rfl (by simp [Try.ntmps22])]
  generalize hC : env.ctx 22 (callN env fuel n) = C
  have htt : C.tt = env.tt := by rw [← hC]; rfl
  have hlin : C.lin = [19, 36] := by rw [← hC]; rfl
  have hl1 : C.live 2 = [0, 4] := by rw [← hC]; rfl
  have hl2 : C.live 100002 = [0, 2, 3, 4] := by rw [← hC]; rfl
  have hL := fun st h => @loop22 C htt hlin fuel _ rfl nl xs hx xs 0 fuel st rfl (by omega) hf h
  simp only [Nat.zero_add] at hL
  have hs := strip_len xs
  have hle := lead_le xs
  have e1 : (lead xs : Int) ≤ xs.length := by omega
  unfold numberOf
  cases hsx : strip xs with
  | nil =>
    simp [htt, hlin, ev_loop, hl1, hl2, hL, hsx, e1, drop_lead]
  | cons b t =>
    rw [hsx] at hs
    simp at hs
    have e6 : t.length + 1 ≤ 140737488355328 := by omega
    by_cases h1 : 64 < t.length + 1
    · have e5 : (64 : Int) < (t.length : Int) + 1 := by omega
      simp [htt, hlin, ev_loop, hl1, hl2, hL, hsx, e1, drop_lead, h1, e5, e6]
    · have e5 : ¬ ((64 : Int) < (t.length : Int) + 1) := by omega
      have e2 : ¬ ((t.length : Int) + 1 = 0) := by omega
      have e7 : 1 + (t.length + 1) ≤ 140737488355328 := by omega
      by_cases h2 : 128 ≤ b
      · have h2' : 127 < b := by omega
        simp [htt, hlin, ev_loop, hl1, hl2, hL, hsx, e1, drop_lead, h1, e5, e6, e2, h2, h2', e7]
      · have h2' : ¬ 127 < b := by omega
        simp [htt, hlin, ev_loop, hl1, hl2, hL, hsx, e1, drop_lead, h1, e5, e6, e2, h2, h2', e7]
end Go.Proofs.Ytmehkdomnhgmeaa
