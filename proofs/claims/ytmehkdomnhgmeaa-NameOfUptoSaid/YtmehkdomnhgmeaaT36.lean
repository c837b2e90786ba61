/- What the law's own may hands back: for all names of some size. -/
import Derived.Test.YtmehkdomnhgmeaaT38
namespace Go.Proofs.Ytmehkdomnhgmeaa
open Go Go.VM
set_option linter.unusedSimpArgs false
set_option linter.unusedVariables false
set_option maxRecDepth 100000
set_option maxHeartbeats 4000000

def partOk (p : Int × List Int) : Bool := isKind p.1 && decide (textBad p.2 = 0)
def may (l : List (Int × List Int)) : Bool := decide (l.length ≤ 8) && l.all partOk

theorem loop36 {C : Ctx} (htt : C.tt = env.tt) (hlin : C.lin = []) {fuel m : Nat} (hfu : 64 < fuel) (hcall : C.call = callN env fuel (m+1)) {c : Code} (hc : loopAt 4 Try.f36 = some c) (na : Bool) (a : List (Int × List Int)) (ha : a.length ≤ 1000)
    (hl : ∀ p ∈ a, p.2.length ≤ 9223372036854775807) :
    ∀ (us : List (Int × List Int)) (i k : Nat) (st : St), a.drop i = us → i ≤ a.length → us.length < k →
      st.trim 0 [0, 3] = ⟨[(0, .d (.sl 2 na (rows a))), (3, .d (.int .i64 i))], [], []⟩ →
      iter (ev C fuel c) 0 [0, 3] [2] k st = if us.all partOk then some (.exit 0, ⟨[], [], []⟩) else some (.ret, ⟨[(2, .d (.bool false))], [], []⟩) := by
  simp [loopAt, findLoop, Try.f36] at hc
  subst hc
  intro us
  induction us with
  | nil =>
    intro i k st hd hi hk' hst
    obtain ⟨k, rfl⟩ : ∃ j, k = j + 1 := ⟨k - 1, by simp at hk'; omega⟩
    have h0 := drop_nil hd
    have e0 : ¬ ((i : Int) < (a.length : Int)) := by omega
    rw [iter_eq, hst]
    simp [htt, hlin, e0, rows_len]
  | cons x us ih =>
    intro i k st hd hi hk' hst
    obtain ⟨k, rfl⟩ : ∃ j, k = j + 1 := ⟨k - 1, by simp at hk'; omega⟩
    simp at hk'
    obtain ⟨hd2, hlt⟩ := drop_succ hd
    have ra := rows_at hd
    have hx : x ∈ a := List.mem_of_getElem? (at_of_drop hd)
    have hx2 := hl x hx
    have e0 : (i : Int) < (a.length : Int) := by omega
    have e1 : (i : Int) + 1 ≤ 9223372036854775807 := by omega
    have e2 : (-9223372036854775808 : Int) ≤ (i : Int) + 1 := by omega
    have ih' := fun st h => ih (i + 1) k st hd2 (by omega) hk' h
    obtain ⟨x1, x2⟩ := x
    have k1 := t52 fuel m false x2 hx2 hfu
    have k2 := t53 fuel m x1
    rw [iter_eq, hst]
    by_cases ht : textBad x2 = 0
    · rw [if_pos ht] at k1
      cases hkd : isKind x1 with
      | true =>
        rw [hkd] at k2
        have hp : partOk (x1, x2) = true := by simp [partOk, hkd, ht]
        simp only [List.all_cons, hp, Bool.true_and]
        simp [htt, hlin, hcall, e0, e1, e2, ra, rows_len, k1, k2, ht, ih']
      | false =>
        rw [hkd] at k2
        have hp : partOk (x1, x2) = false := by simp [partOk, hkd, ht]
        simp only [List.all_cons, hp, Bool.false_and]
        simp [htt, hlin, hcall, e0, e1, e2, ra, rows_len, k1, k2, ht]
    · rw [if_neg ht] at k1
      cases hkd : isKind x1 with
      | true =>
        rw [hkd] at k2
        have hp : partOk (x1, x2) = false := by simp [partOk, hkd, ht]
        simp only [List.all_cons, hp, Bool.false_and]
        simp [htt, hlin, hcall, e0, e1, e2, ra, rows_len, k1, k2, ht]
      | false =>
        rw [hkd] at k2
        have hp : partOk (x1, x2) = false := by simp [partOk, hkd, ht]
        simp only [List.all_cons, hp, Bool.false_and]
        simp [htt, hlin, hcall, e0, e1, e2, ra, rows_len, k1, k2, ht]

theorem t36 (fuel n : Nat) (na : Bool) (a : List (Int × List Int)) (ha : a.length ≤ 1000) (hl : ∀ p ∈ a, p.2.length ≤ 9223372036854775807) (hf : 1000 < fuel) :
    callN env fuel (n+2) 36 [.d (.sl 2 na (rows a))] = some ⟨[.d (.bool (may a))], []⟩ := by
  rw [callN_run (fn := Try.f36) rfl rfl rfl (by simp [Try.ntmps36])]
  generalize hC : env.ctx 36 (callN env fuel (n+1)) (callP env fuel (n+1)) = C
  have htt : C.tt = env.tt := by rw [← hC]; rfl
  have hlin : C.lin = [] := by rw [← hC]; rfl
  have hcall : C.call = callN env fuel (n+1) := by rw [← hC]; rfl
  have hl1 : C.live 4 = [0, 3] := by rw [← hC]; rfl
  have hl2 : C.live 100004 = [2] := by rw [← hC]; rfl
  have hL := fun st h => @loop36 C htt hlin fuel n (by omega) hcall _ rfl na a ha hl a 0 fuel st rfl (by omega) (by omega) h
  unfold may
  by_cases h8 : a.length ≤ 8
  · have e0 : ¬ ((8 : Int) < a.length) := by omega
    cases hall : a.all partOk with
    | true => simp [htt, hlin, hcall, ev_loop, hl1, hl2, hL, rows_len, e0, h8, hall]
    | false => simp [htt, hlin, hcall, ev_loop, hl1, hl2, hL, rows_len, e0, h8, hall]
  · have e0 : (8 : Int) < a.length := by omega
    simp [htt, hlin, hcall, rows_len, e0, h8]
end Go.Proofs.Ytmehkdomnhgmeaa
