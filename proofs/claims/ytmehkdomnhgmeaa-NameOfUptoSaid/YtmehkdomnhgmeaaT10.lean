/- The law NameWithin, reckoned by the machine over values, hands back true: for all names that memory can hold. -/
import Derived.Test.YtmehkdomnhgmeaaT34
namespace Go.Proofs.Ytmehkdomnhgmeaa
open Go Go.VM
set_option linter.unusedSimpArgs false
set_option linter.unusedVariables false
set_option maxRecDepth 100000
set_option maxHeartbeats 4000000

theorem up0 : callN env 200 20 31 [] = some ⟨[.d (.bool true)], []⟩ := by kernel_rfl
theorem up (fuel n : Nat) (hf : 200 ≤ fuel) (hn : 20 ≤ n) : callN env fuel n 31 [] = some ⟨[.d (.bool true)], []⟩ := callN_mono hf hn up0

def ahead : List (Int × List Int) → List (Int × List Int) → Bool
  | _, [] => true
  | [], _ :: _ => false
  | u :: us, v :: vs => if u = v then ahead us vs else false

theorem ahead_within : ∀ (a b : List (Int × List Int)), ahead a b = within a b
  | a, [] => by simp [ahead, within]
  | [], v :: vs => by simp [ahead, within]
  | u :: us, v :: vs => by
    have ih := ahead_within us vs
    unfold ahead
    unfold within at ih ⊢
    by_cases h : u = v
    · simp only [if_pos h, ih]; simp [h]
    · simp only [if_neg h]; simp [h]

theorem loop10off {C : Ctx} (htt : C.tt = env.tt) (hlin : C.lin = []) {fuel : Nat} {c : Code} (hc : loopAt 4 Try.f10 = some c) (na nb : Bool) (a b : List (Int × List Int)) (w : Bool) :
    ∀ (i k : Nat) (st : St), 0 < k → st.trim 0 [0, 1, 5, 6, 7] = ⟨[(0, .d (.sl 2 na (rows a))), (1, .d (.sl 2 nb (rows b))), (5, .d (.bool w)), (6, .d (.bool false)), (7, .d (.int .i64 i))], [], []⟩ →
      iter (ev C fuel c) 0 [0, 1, 5, 6, 7] [0, 1, 4, 5, 6] k st = some (.exit 0, ⟨[(0, .d (.sl 2 na (rows a))), (1, .d (.sl 2 nb (rows b))), (5, .d (.bool w)), (6, .d (.bool false))], [], []⟩) := by
  simp [loopAt, findLoop, Try.f10] at hc
  subst hc
  intro i k st hk hst
  obtain ⟨k, rfl⟩ : ∃ j, k = j + 1 := ⟨k - 1, by omega⟩
  rw [iter_eq, hst]
  by_cases e0 : (i : Int) < (b.length : Int)
  · simp [htt, hlin, e0, rows_len]
  · simp [htt, hlin, e0, rows_len]

theorem loop10 {C : Ctx} (htt : C.tt = env.tt) (hlin : C.lin = []) (hl6 : C.live 200006 = []) {fuel : Nat} {c : Code} (hc : loopAt 4 Try.f10 = some c) (na nb : Bool) (a b : List (Int × List Int)) (ha : a.length ≤ 140737488355328) (hab : b.length ≤ a.length) (w : Bool) :
    ∀ (vs us : List (Int × List Int)) (i k : Nat) (st : St), a.drop i = us → b.drop i = vs → i ≤ b.length → vs.length + 1 < k →
      st.trim 0 [0, 1, 5, 6, 7] = ⟨[(0, .d (.sl 2 na (rows a))), (1, .d (.sl 2 nb (rows b))), (5, .d (.bool w)), (6, .d (.bool true)), (7, .d (.int .i64 i))], [], []⟩ →
      iter (ev C fuel c) 0 [0, 1, 5, 6, 7] [0, 1, 4, 5, 6] k st = some (.exit 0, ⟨[(0, .d (.sl 2 na (rows a))), (1, .d (.sl 2 nb (rows b))), (5, .d (.bool w)), (6, .d (.bool (ahead us vs)))], [], []⟩) := by
  have off := @loop10off C htt hlin fuel c hc na nb a b w
  simp [loopAt, findLoop, Try.f10] at hc
  subst hc
  intro vs
  induction vs with
  | nil =>
    intro us i k st hd hd' hi hk hst
    obtain ⟨k, rfl⟩ : ∃ j, k = j + 1 := ⟨k - 1, by simp at hk; omega⟩
    have h0 := drop_nil hd'
    have e0 : ¬ ((i : Int) < (b.length : Int)) := by omega
    rw [iter_eq, hst]
    simp [htt, hlin, e0, rows_len, ahead]
  | cons y vs ih =>
    intro us i k st hd hd' hi hk hst
    obtain ⟨k, rfl⟩ : ∃ j, k = j + 1 := ⟨k - 1, by simp at hk; omega⟩
    simp at hk
    obtain ⟨hd2', hlt'⟩ := drop_succ hd'
    cases us with
    | nil => have := drop_nil hd; omega
    | cons x us =>
      obtain ⟨hd2, hlt⟩ := drop_succ hd
      have ra := rows_at hd
      have rb := rows_at hd'
      have e0 : (i : Int) < (b.length : Int) := by omega
      have e1 : (i : Int) + 1 ≤ 9223372036854775807 := by omega
      have e2 : (-9223372036854775808 : Int) ≤ (i : Int) + 1 := by omega
      have off' := fun st h => off (i + 1) k st (by omega) h
      obtain ⟨x1, x2⟩ := x
      obtain ⟨y1, y2⟩ := y
      rw [iter_eq, hst]
      by_cases h : x1 = y1 ∧ x2 = y2
      · have ih' := fun st h => ih us (i + 1) k st hd2 hd2' (by omega) (by omega) h
        simp [htt, hlin, hl6, e0, e1, e2, ra, rb, eql57 (C := C.nolin) htt, h, ih', rows_len, ahead]
      · simp [htt, hlin, hl6, e0, e1, e2, ra, rb, eql57 (C := C.nolin) htt, h, rows_len, ahead, off']

theorem within_self (a : List (Int × List Int)) : within a a = true := by simp [within]
theorem within_nil (a : List (Int × List Int)) : within a [] = true := by simp [within]

theorem t10 (fuel n : Nat) (na nb : Bool) (a b : List (Int × List Int)) (ha : a.length ≤ 140737488355328) (hb : b.length ≤ 140737488355328) (hf : a.length + b.length + 200 < fuel) :
    callN env fuel (n+21) 10 [.d (.sl 2 na (rows a)), .d (.sl 2 nb (rows b))] = some ⟨[.d (.bool true)], []⟩ := by
  rw [callN_run (fn := Try.f10) rfl rfl rfl (by simp [Try.ntmps10])]
  generalize hC : env.ctx 10 (callN env fuel (n+20)) (callP env fuel (n+20)) = C
  have htt : C.tt = env.tt := by rw [← hC]; rfl
  have hlin : C.lin = [] := by rw [← hC]; rfl
  have hcall : C.call = callN env fuel (n+20) := by rw [← hC]; rfl
  have hl1 : C.live 4 = [0, 1, 5, 6, 7] := by rw [← hC]; rfl
  have hl2 : C.live 100004 = [0, 1, 4, 5, 6] := by rw [← hC]; rfl
  have hl6 : C.live 200006 = [] := by rw [← hC]; rfl
  have hup := up fuel (n+20) (by omega) (by omega)
  have k1 := t32 fuel (n+18) na nb a b ha (by omega)
  have k2 := t33 fuel (n+18) na nb a b ha (by omega)
  have k3 := t34 fuel (n+19) na nb a b ha (by omega)
  have k4 := t32 fuel (n+18) na na a a ha (by omega)
  have k5 := t33 fuel (n+18) nb nb b b hb (by omega)
  have k6 := t32 fuel (n+18) na true a [] ha (by omega)
  have r0 : rows [] = [] := rfl
  rw [r0, within_nil] at k6
  rw [within_self] at k4
  by_cases hab : b.length ≤ a.length
  · have hL := fun st h => @loop10 C htt hlin hl6 fuel _ rfl na nb a b ha hab true b a 0 fuel st rfl rfl (by omega) (by omega) h
    have e0 : (b.length : Int) ≤ a.length := by omega
    simp [htt, hlin, hcall, ev_loop, hl1, hl2, hup, hL, rows_len, e0, k1, k2, k3, k4, k5, k6, ahead_within]
  · have e0 : ¬ ((b.length : Int) ≤ a.length) := by omega
    have hw : within a b = false := by simp [within, hab]
    rw [hw] at k1
    have hab' : a ≠ b := fun e => hab (by rw [e]; omega)
    have hL := fun st h => @loop10off C htt hlin fuel _ rfl na nb a b true 0 fuel st (by omega) h
    simp [htt, hlin, hcall, ev_loop, hl1, hl2, hup, hL, rows_len, e0, k1, k2, k3, k4, k5, k6, hab']
end Go.Proofs.Ytmehkdomnhgmeaa
