/- What the reference's SmallOf hands back: for every input. -/
import Derived.Test.YtmehkdomnhgmeaaT25
namespace Go.Proofs.Ytmehkdomnhgmeaa
open Go Go.VM
set_option linter.unusedSimpArgs false
set_option linter.unusedVariables false
set_option maxRecDepth 100000
set_option maxHeartbeats 4000000

/-- A number's bytes, at most so many. -/
def dig : Nat → Int → List Int → List Int
  | 0, _, acc => acc
  | f + 1, m, acc => if 0 < m then dig f (m / 256) (m % 256 :: acc) else acc

theorem loop26 {C : Ctx} (htt : C.tt = env.tt) (hlin : C.lin = [16]) {fuel : Nat} {c : Code} (hc : loopAt 4 Try.f26 = some c) :
    ∀ (f : Nat) (m : Int) (acc : List Int) (nl : Bool) (os : List Pl) (k : Nat) (st : St), (os = [] ∨ os = [.t 4]) → 0 ≤ m → m < 256 ^ f → f < k → f ≤ 4 → acc.length ≤ 10 - f →
      st.trim 0 [0, 4] = ⟨[(0, .d (.int .i64 m)), (4, .d (.nums .u8 nl acc))], [], os⟩ →
      iter (ev C fuel c) 0 [0, 4] [2, 3, 4] k st = some (.exit 0, ⟨[(4, .d (.nums .u8 (nl && decide (m ≤ 0)) (dig f m acc)))], [], if 0 < m then [.t 4] else os⟩) := by
  simp [loopAt, findLoop, Try.f26] at hc
  subst hc
  intro f
  induction f with
  | zero =>
    intro m acc nl os k st hos h0 hm hk hf ha hst
    obtain ⟨k, rfl⟩ : ∃ j, k = j + 1 := ⟨k - 1, by omega⟩
    have : m = 0 := by simp at hm; omega
    subst this
    rw [iter_eq, hst]
    rcases hos with rfl | rfl <;> simp [htt, hlin, dig]
  | succ f ih =>
    intro m acc nl os k st hos h0 hm hk hf ha hst
    obtain ⟨k, rfl⟩ : ∃ j, k = j + 1 := ⟨k - 1, by omega⟩
    by_cases hp : 0 < m
    · have hm2 : m < 4294967296 := by
        have : (256 : Int) ^ (f + 1) ≤ 256 ^ 4 := by
          have := Nat.pow_le_pow_right (n := 256) (by omega) hf
          exact_mod_cast this
        omega
      have q1 : m.tdiv 256 = m / 256 := Int.tdiv_eq_ediv_of_nonneg h0
      have q2 : m.tmod 256 = m % 256 := Int.tmod_eq_emod_of_nonneg h0
      have w1 : IntKind.i64.wrap (m / 256) = m / 256 := wrap_ok (by simp; omega) (by simp; omega)
      have w2 : IntKind.i64.wrap (m % 256) = m % 256 := wrap_ok (by simp; omega) (by simp; omega)
      have w3 : IntKind.u8.wrap (m % 256) = m % 256 := wrap_ok (by simp; omega) (by simp; omega)
      have hm3 : m / 256 < 256 ^ f := by
        rw [Int.pow_succ] at hm
        exact Int.ediv_lt_of_lt_mul (by omega) hm
      have l1 : 1 + acc.length ≤ 140737488355328 := by omega
      have ih' := fun st h => ih (m / 256) (m % 256 :: acc) false [.t 4] k st (.inr rfl) (by omega) hm3 (by omega) (by omega) (by simp; omega) h
      have hp' : ¬ m ≤ 0 := by omega
      rw [iter_eq, hst]
      rcases hos with rfl | rfl <;> simp [htt, hlin, hp, hp', q1, q2, w1, w2, w3, l1, dig, ih']
    · have hp' : m ≤ 0 := by omega
      rw [iter_eq, hst]
      rcases hos with rfl | rfl <;> simp [htt, hlin, hp, hp', dig]

theorem dig_len : ∀ (f : Nat) (m : Int) (acc : List Int), (dig f m acc).length ≤ acc.length + f
  | 0, m, acc => by simp [dig]
  | f + 1, m, acc => by
    unfold dig
    split
    · have := dig_len f (m / 256) (m % 256 :: acc)
      simp at this; omega
    · omega

theorem t26 (fuel n : Nat) (m : Int) : callN env (fuel + 100) (n+2) 26 [.d (.int .i64 m)] = some (if m < 0 ∨ 2147483647 < m then ⟨[.d (.nums .u8 true []), .d (.int .i64 3)], []⟩ else
    match numberOf (dig 4 m []) with
    | .inl e => ⟨[.d (.nums .u8 true []), .d (.int .i64 e)], []⟩
    | .inr ys => ⟨[.d (.nums .u8 false ys), .d (.int .i64 0)], (match strip (dig 4 m []) with | [] => [0] | b :: _ => if 128 ≤ b then [0] else [])⟩) := by
  rw [callN_run (fn := Try.f26) rfl rfl rfl (by simp [Try.ntmps26])]
  generalize hC : env.ctx 26 (callN env (fuel + 100) (n+1)) = C
  have htt : C.tt = env.tt := by rw [← hC]; rfl
  have hlin : C.lin = [16] := by rw [← hC]; rfl
  have hcall : C.call = callN env (fuel + 100) (n+1) := by rw [← hC]; rfl
  have hl1 : C.live 4 = [0, 4] := by rw [← hC]; rfl
  have hl2 : C.live 100004 = [2, 3, 4] := by rw [← hC]; rfl
  by_cases h0 : m < 0
  · simp [htt, hlin, hcall, h0]
  · by_cases h1 : 2147483647 < m
    · simp [htt, hlin, hcall, h0, h1]
    · have hd := dig_len 4 m []
      simp only [List.length_nil, Nat.zero_add] at hd
      have hL := fun st h => @loop26 C htt hlin (fuel + 100) _ rfl 4 m [] true [] (fuel + 100) st (.inl rfl) (by omega) (by omega) (by omega) (by omega) (by simp) h
      simp only [Bool.true_and] at hL
      by_cases hp : 0 < m
      · have hp' : ¬ m ≤ 0 := by omega
        simp only [hp, hp', decide_false, if_true] at hL
        have a1 := t22 (fuel + 100) n false (dig 4 m []) (by omega) (by omega)
        cases hnum : numberOf (dig 4 m []) with
        | inl e =>
          rw [hnum] at a1
          simp [htt, hlin, hcall, h0, h1, ev_loop, hl1, hl2, hL, a1]
        | inr ys =>
          rw [hnum] at a1
          cases hsx : strip (dig 4 m []) with
          | nil =>
            rw [hsx] at a1
            simp [htt, hlin, hcall, h0, h1, ev_loop, hl1, hl2, hL, a1]
          | cons b t =>
            rw [hsx] at a1
            by_cases hb : 128 ≤ b
            · simp only [hb, if_true] at a1
              simp [htt, hlin, hcall, h0, h1, ev_loop, hl1, hl2, hL, a1, hb]
            · simp only [hb, if_false] at a1
              simp [htt, hlin, hcall, h0, h1, ev_loop, hl1, hl2, hL, a1, hb]
      · have hm : m = 0 := by omega
        subst hm
        have a1 := t22 (fuel + 100) n true [] (by simp) (by simp)
        have hL' := hL
        simp [dig] at hL'
        simp [numberOf, strip] at a1
        simp [htt, hlin, hcall, ev_loop, hl1, hl2, hL', a1, dig, numberOf, strip]
end Go.Proofs.Ytmehkdomnhgmeaa
