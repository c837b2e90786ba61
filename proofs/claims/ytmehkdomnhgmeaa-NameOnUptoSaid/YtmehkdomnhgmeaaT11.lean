/- The law NameOn, reckoned by the machine over values, hands back true: for all names of some size. -/
import Derived.Test.YtmehkdomnhgmeaaT10
import Derived.Test.YtmehkdomnhgmeaaVM44
namespace Go.Proofs.Ytmehkdomnhgmeaa
open Go Go.VM
set_option linter.unusedSimpArgs false
set_option linter.unusedVariables false
set_option maxRecDepth 100000
set_option maxHeartbeats 4000000

theorem within_iff {a b : List (Int × List Int)} : within a b = true ↔ ∃ t, a = b ++ t := by
  unfold within
  simp only [decide_eq_true_eq]
  constructor
  · rintro ⟨_, h⟩
    exact ⟨a.drop b.length, by conv => lhs; rw [← List.take_append_drop b.length a, h]⟩
  · rintro ⟨t, rfl⟩
    simp
theorem within_on {a b c : List (Int × List Int)} (h1 : within a b = true) (h2 : within b c = true) : within a c = true := by
  obtain ⟨t, rfl⟩ := within_iff.1 h1
  obtain ⟨u, rfl⟩ := within_iff.1 h2
  exact within_iff.2 ⟨u ++ t, by simp⟩
theorem within_round {a b : List (Int × List Int)} (h1 : within a b = true) (h2 : within b a = true) : a = b := by
  obtain ⟨t, h⟩ := within_iff.1 h1
  obtain ⟨u, h'⟩ := within_iff.1 h2
  have : t.length = 0 := by
    have e1 := congrArg List.length h
    have e2 := congrArg List.length h'
    simp at e1 e2
    omega
  have : t = [] := List.length_eq_zero_iff.1 this
  subst this
  simpa using h
theorem rows_append (a b : List (Int × List Int)) : rows a ++ rows b = rows (a ++ b) := by simp [rows]

theorem t11 (fuel n : Nat) (na nb nc : Bool) (a b c : List (Int × List Int)) (ha : a.length ≤ 1048576) (hb : b.length ≤ 1048576) (hc : c.length ≤ 1048576) (hf : a.length + b.length + c.length + 200 < fuel) :
    callN env fuel (n+21) 11 [.d (.sl 2 na (rows a)), .d (.sl 2 nb (rows b)), .d (.sl 2 nc (rows c))] = some ⟨[.d (.bool true)], []⟩ := by
  rw [callN_run (fn := Try.f11) rfl rfl rfl (by simp [Try.ntmps11])]
  generalize hC : env.ctx 11 (callN env fuel (n+20)) = C
  have htt : C.tt = env.tt := by rw [← hC]; rfl
  have hlin : C.lin = [42, 44] := by rw [← hC]; rfl
  have hcall : C.call = callN env fuel (n+20) := by rw [← hC]; rfl
  have hup := up fuel (n+20) (by omega) (by omega)
  have k1 := t32 fuel (n+18) na nb a b (by omega) (by omega)
  have k2 := t32 fuel (n+18) nb nc b c (by omega) (by omega)
  have k3 := t32 fuel (n+18) na nc a c (by omega) (by omega)
  have k4 := t32 fuel (n+18) nb na b a (by omega) (by omega)
  have k5 := t33 fuel (n+18) na nb a b (by omega) (by omega)
  have hab : (a ++ b).length = a.length + b.length := by simp
  have k6 := t32 fuel (n+18) false na (a ++ b) a (by omega) (by omega)
  rw [show within (a ++ b) a = true from within_iff.2 ⟨b, rfl⟩] at k6
  have e1 : a.length * 24 ≤ 140737488355328 := by omega
  have e2 : a.length ≤ 140737488355328 := by omega
  have e3 : (a.length + b.length) * 24 ≤ 140737488355328 := by omega
  have e4 : a.length + b.length ≤ 140737488355328 := by omega
  cases h1 : within a b with
  | false =>
    rw [h1] at k1
    simp [htt, hlin, hcall, hup, k1, k2, k3, k4, k5, k6, rows_len, rows_append, e1, e2, e3, e4]
  | true =>
    rw [h1] at k1
    cases h4 : within b a with
    | false =>
      rw [h4] at k4
      cases h2 : within b c with
      | false =>
        rw [h2] at k2
        simp [htt, hlin, hcall, hup, k1, k2, k3, k4, k5, k6, rows_len, rows_append, e1, e2, e3, e4]
      | true =>
        rw [h2] at k2
        rw [within_on h1 h2] at k3
        simp [htt, hlin, hcall, hup, k1, k2, k3, k4, k5, k6, rows_len, rows_append, e1, e2, e3, e4]
    | true =>
      rw [h4] at k4
      have hEq := within_round h1 h4
      have hd : decide (a = b) = true := by simp [hEq]
      rw [hd] at k5
      cases h2 : within b c with
      | false =>
        rw [h2] at k2
        simp [htt, hlin, hcall, hup, k1, k2, k3, k4, k5, k6, rows_len, rows_append, e1, e2, e3, e4]
      | true =>
        rw [h2] at k2
        rw [within_on h1 h2] at k3
        simp [htt, hlin, hcall, hup, k1, k2, k3, k4, k5, k6, rows_len, rows_append, e1, e2, e3, e4]
end Go.Proofs.Ytmehkdomnhgmeaa
