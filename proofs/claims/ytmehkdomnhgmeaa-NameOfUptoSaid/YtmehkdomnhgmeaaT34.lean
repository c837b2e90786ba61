/- What name.Within, name.Same and the law's own same hand back: for all names. -/
import Derived.Test.YtmehkdomnhgmeaaT49
namespace Go.Proofs.Ytmehkdomnhgmeaa
open Go Go.VM
set_option linter.unusedSimpArgs false
set_option linter.unusedVariables false
set_option maxRecDepth 100000
set_option maxHeartbeats 4000000

theorem rows_take (l : List (Int × List Int)) (n : Nat) : (rows l).take n = rows (l.take n) := by simp [rows]

theorem loop34 {C : Ctx} (htt : C.tt = env.tt) (hlin : C.lin = []) (hl6 : C.live 200006 = []) {fuel : Nat} {c : Code} (hc : loopAt 4 Try.f34 = some c) (na nb : Bool) (a b : List (Int × List Int)) (ha : a.length ≤ 140737488355328) (hab : a.length = b.length) :
    ∀ (us vs : List (Int × List Int)) (i k : Nat) (st : St), a.drop i = us → b.drop i = vs → i ≤ a.length → us.length < k →
      st.trim 0 [0, 1, 5] = ⟨[(0, .d (.sl 2 na (rows a))), (1, .d (.sl 2 nb (rows b))), (5, .d (.int .i64 i))], [], []⟩ →
      iter (ev C fuel c) 0 [0, 1, 5] [4] k st = if us = vs then some (.exit 0, ⟨[], [], []⟩) else some (.ret, ⟨[(4, .d (.bool false))], [], []⟩) := by
  simp [loopAt, findLoop, Try.f34] at hc
  subst hc
  intro us
  induction us with
  | nil =>
    intro vs i k st hd hd' hi hk hst
    obtain ⟨k, rfl⟩ : ∃ j, k = j + 1 := ⟨k - 1, by simp at hk; omega⟩
    have h0 := drop_nil hd
    have hb : vs = [] := by rw [← hd', List.drop_eq_nil_of_le (by omega)]
    subst hb
    have e0 : ¬ ((i : Int) < (a.length : Int)) := by omega
    rw [iter_eq, hst]
    simp [htt, hlin, e0, rows_len]
  | cons x us ih =>
    intro vs i k st hd hd' hi hk hst
    obtain ⟨k, rfl⟩ : ∃ j, k = j + 1 := ⟨k - 1, by simp at hk; omega⟩
    simp at hk
    obtain ⟨hd2, hlt⟩ := drop_succ hd
    cases vs with
    | nil => have := drop_nil hd'; omega
    | cons y vs =>
      obtain ⟨hd2', hlt'⟩ := drop_succ hd'
      have ra := rows_at hd
      have rb := rows_at hd'
      have e0 : (i : Int) < (a.length : Int) := by omega
      have e1 : (i : Int) + 1 ≤ 9223372036854775807 := by omega
      have e2 : (-9223372036854775808 : Int) ≤ (i : Int) + 1 := by omega
      obtain ⟨x1, x2⟩ := x
      obtain ⟨y1, y2⟩ := y
      rw [iter_eq, hst]
      by_cases h : x1 = y1 ∧ x2 = y2
      · have ih' := fun st h => ih vs (i + 1) k st hd2 hd2' (by omega) (by omega) h
        simp [htt, hlin, hl6, e0, e1, e2, ra, rb, neq57 (C := C.nolin) htt, h, ih', rows_len]
      · simp [htt, hlin, hl6, e0, e1, e2, ra, rb, neq57 (C := C.nolin) htt, h, rows_len]

theorem t34 (fuel n : Nat) (na nb : Bool) (a b : List (Int × List Int)) (ha : a.length ≤ 140737488355328) (hf : a.length < fuel) :
    callN env fuel (n+1) 34 [.d (.sl 2 na (rows a)), .d (.sl 2 nb (rows b))] = some ⟨[.d (.bool (decide (a = b)))], []⟩ := by
  rw [callN_run (fn := Try.f34) rfl rfl rfl (by simp [Try.ntmps34])]
  generalize hC : env.ctx 34 (callN env fuel n) (callP env fuel n) = C
  have htt : C.tt = env.tt := by rw [← hC]; rfl
  have hlin : C.lin = [] := by rw [← hC]; rfl
  have hl1 : C.live 4 = [0, 1, 5] := by rw [← hC]; rfl
  have hl2 : C.live 100004 = [4] := by rw [← hC]; rfl
  have hl6 : C.live 200006 = [] := by rw [← hC]; rfl
  by_cases hab : a.length = b.length
  · have hL := fun st h => @loop34 C htt hlin hl6 fuel _ rfl na nb a b ha hab a b 0 fuel st rfl rfl (by omega) hf h
    have e0 : (a.length : Int) = b.length := by omega
    by_cases h : a = b
    · simp [htt, hlin, ev_loop, hl1, hl2, hL, rows_len, e0, h]
    · simp [htt, hlin, ev_loop, hl1, hl2, hL, rows_len, e0, h]
  · have e0 : ¬ ((a.length : Int) = b.length) := by omega
    have h : ¬ a = b := fun e => hab (by rw [e])
    simp [htt, hlin, ev_loop, hl1, hl2, rows_len, e0, h]

theorem t33 (fuel n : Nat) (na nb : Bool) (a b : List (Int × List Int)) (ha : a.length ≤ 140737488355328) (hf : a.length < fuel) :
    callN env fuel (n+2) 33 [.d (.sl 2 na (rows a)), .d (.sl 2 nb (rows b))] = some ⟨[.d (.bool (decide (a = b)))], []⟩ := by
  rw [callN_run (fn := Try.f33) rfl rfl rfl (by simp [Try.ntmps33])]
  generalize hC : env.ctx 33 (callN env fuel (n+1)) (callP env fuel (n+1)) = C
  have htt : C.tt = env.tt := by rw [← hC]; rfl
  have hlin : C.lin = [] := by rw [← hC]; rfl
  have hcall : C.call = callN env fuel (n+1) := by rw [← hC]; rfl
  simp [htt, hlin, hcall, t49 fuel n na nb a b ha hf]

/-- Is the one within the other? -/
def within (a b : List (Int × List Int)) : Bool := decide (b.length ≤ a.length ∧ a.take b.length = b)

theorem t32 (fuel n : Nat) (na nb : Bool) (a b : List (Int × List Int)) (ha : a.length ≤ 140737488355328) (hf : a.length < fuel) :
    callN env fuel (n+2) 32 [.d (.sl 2 na (rows a)), .d (.sl 2 nb (rows b))] = some ⟨[.d (.bool (within a b))], []⟩ := by
  rw [callN_run (fn := Try.f32) rfl rfl rfl (by simp [Try.ntmps32])]
  generalize hC : env.ctx 32 (callN env fuel (n+1)) (callP env fuel (n+1)) = C
  have htt : C.tt = env.tt := by rw [← hC]; rfl
  have hlin : C.lin = [] := by rw [← hC]; rfl
  have hcall : C.call = callN env fuel (n+1) := by rw [← hC]; rfl
  unfold within
  by_cases h : b.length ≤ a.length
  · have e0 : (b.length : Int) ≤ a.length := by omega
    have hl : (a.take b.length).length ≤ a.length := by simp; omega
    have k := t49 fuel n na nb (a.take b.length) b (by omega) (by omega)
    simp [htt, hlin, hcall, rows_len, e0, h, rows_take, k]
  · have e0 : ¬ ((b.length : Int) ≤ a.length) := by omega
    simp [htt, hlin, hcall, rows_len, e0, h]
end Go.Proofs.Ytmehkdomnhgmeaa
