/- The law PrimSmallOf, reckoned by the machine over values, hands back true: for every input. -/
import Derived.Test.YtmehkdomnhgmeaaT26
namespace Go.Proofs.Ytmehkdomnhgmeaa
open Go Go.VM
set_option linter.unusedSimpArgs false
set_option linter.unusedVariables false
set_option maxRecDepth 100000
set_option maxHeartbeats 4000000

theorem val_strip : ∀ l : List Int, val 0 (strip l) = val 0 l
  | [] => rfl
  | b :: t => by
    unfold strip
    split
    · rename_i h
      subst h
      rw [val_strip t]
      simp [val]
    · rfl
theorem strip_strip : ∀ l : List Int, strip (strip l) = strip l
  | [] => rfl
  | b :: t => by
    by_cases h : b = 0
    · simp [strip, h, strip_strip t]
    · simp [strip, h]

theorem strip_four {m : Int} (h0 : 0 ≤ m) (h1 : m ≤ 2147483647) : strip (four m) = dig 4 m [] := by
  unfold four
  by_cases a : m = 0
  · subst a; simp [strip, dig]
  · have p0 : 0 < m := by omega
    by_cases b : m < 256
    · have e1 : m / 16777216 % 256 = 0 := by omega
      have e2 : m / 65536 % 256 = 0 := by omega
      have e3 : m / 256 % 256 = 0 := by omega
      have e4 : ¬ m % 256 = 0 := by omega
      have e5 : ¬ 0 < m / 256 := by omega
      simp [strip, dig, e1, e2, e3, e4, e5, p0]
    · have p1 : 0 < m / 256 := by omega
      by_cases c : m < 65536
      · have e1 : m / 16777216 % 256 = 0 := by omega
        have e2 : m / 65536 % 256 = 0 := by omega
        have e3 : ¬ m / 256 % 256 = 0 := by omega
        have e5 : ¬ 0 < m / 256 / 256 := by omega
        simp [strip, dig, e1, e2, e3, e5, p0, p1]
      · have p2 : 0 < m / 256 / 256 := by omega
        by_cases d : m < 16777216
        · have e1 : m / 16777216 % 256 = 0 := by omega
          have e2 : ¬ m / 65536 % 256 = 0 := by omega
          have e5 : ¬ 0 < m / 256 / 256 / 256 := by omega
          have e6 : m / 256 / 256 % 256 = m / 65536 % 256 := by omega
          simp [strip, dig, e1, e2, e5, e6, p0, p1, p2]
        · have p3 : 0 < m / 256 / 256 / 256 := by omega
          have e1 : ¬ m / 16777216 % 256 = 0 := by omega
          have e6 : m / 256 / 256 % 256 = m / 65536 % 256 := by omega
          have e7 : m / 256 / 256 / 256 % 256 = m / 16777216 % 256 := by omega
          simp [strip, dig, e1, e6, e7, p0, p1, p2, p3]

theorem val_four {m : Int} (h0 : 0 ≤ m) (h1 : m ≤ 2147483647) : val 0 (four m) = m := by
  simp only [four, val]; omega

theorem numberOf_dig {m : Int} (h0 : 0 ≤ m) (h1 : m ≤ 2147483647) : ∃ ys, numberOf (four m) = .inr ys ∧ numberOf (dig 4 m []) = .inr ys ∧ small ys = .inr m ∧ ys.length ≤ 5 := by
  have hs := strip_four h0 h1
  have hs2 : strip (dig 4 m []) = dig 4 m [] := by rw [← hs, strip_strip]
  have hv : val 0 (dig 4 m []) = m := by rw [← hs, val_strip, val_four h0 h1]
  have hl := dig_len 4 m []
  simp only [List.length_nil, Nat.zero_add] at hl
  unfold numberOf
  rw [hs, hs2]
  have h64 : ¬ 64 < (dig 4 m []).length := by omega
  simp only [h64, if_false]
  cases hd : dig 4 m [] with
  | nil =>
    rw [hd] at hv
    simp [val] at hv
    exact ⟨[0], rfl, rfl, by rw [← hv]; simp [small, number, val], by simp⟩
  | cons b t =>
    rw [hd] at hv hs2 hl
    have hb0 := strip_head hs2
    simp at hl
    have h4 : ¬ 4 < t.length + 1 := by omega
    have h6 : ¬ 64 < t.length + 1 := by omega
    have hm : ¬ 2147483647 < m := by omega
    by_cases h2 : 128 ≤ b
    · have h3 : ¬ b < 128 := by omega
      exact ⟨0 :: b :: t, by simp [h2], by simp [h2], by simp [small, number, h3, h6, h4, hv, hm], by simp; omega⟩
    · refine ⟨b :: t, by simp [h2], by simp [h2], ?_, by simp; omega⟩
      cases t with
      | nil => simp [small, number, h2, hb0, hv, hm]
      | cons c t =>
        simp at h4 h6
        have h6' : ¬ 64 < t.length + 1 + 1 := by omega
        have h4' : ¬ 4 < t.length + 1 + 1 := by omega
        simp [small, number, h2, hb0, h6', h4', hv, hm]

theorem numberOf_bytes {m : Int} {ys : List Int} (h : numberOf (four m) = .inr ys) : ∀ x ∈ ys, 0 ≤ x ∧ x < 256 := by
  have hf : ∀ x ∈ four m, 0 ≤ x ∧ x < 256 := by
    intro x hx
    simp [four] at hx
    rcases hx with h | h | h | h <;> omega
  have hs : ∀ x ∈ strip (four m), 0 ≤ x ∧ x < 256 := fun x hx => hf x (by rw [← drop_lead] at hx; exact List.mem_of_mem_drop hx)
  unfold numberOf at h
  split at h
  · cases h
  · split at h
    · cases h; intro x hx; simp at hx; omega
    · rename_i b t he
      rw [he] at hs
      split at h
      · cases h
        intro x hx
        rcases List.mem_cons.1 hx with rfl | hx
        · omega
        · exact hs x hx
      · cases h; exact hs

theorem t8 (fuel n : Nat) (m : Int) (h : -9223372036854775808 ≤ m ∧ m ≤ 9223372036854775807) : callN env (fuel + 100) (n+4) 8 [.d (.int .i64 m)] = some ⟨[.d (.bool true)], []⟩ := by
  rw [callN_run (fn := Try.f8) rfl rfl rfl (by simp [Try.ntmps8])]
  generalize hC : env.ctx 8 (callN env (fuel + 100) (n+3)) = C
  have htt : C.tt = env.tt := by rw [← hC]; rfl
  have hlin : C.lin = [] := by rw [← hC]; rfl
  have hcall : C.call = callN env (fuel + 100) (n+3) := by rw [← hC]; rfl
  have a1 := t25 fuel n m h
  have a2 := t26 fuel (n+1) m
  have a3 := t25 fuel n 0 (by omega)
  have k3 : numberOf (four 0) = .inr [0] := by simp [numberOf, four, strip]
  simp [k3] at a3
  have c0 := t18_nil fuel (n+2)
  have c3 := t18_3 fuel (n+2)
  by_cases hb : m < 0 ∨ 2147483647 < m
  · simp only [hb, if_true] at a1 a2
    simp [htt, hlin, hcall, a1, a2, a3, c3, bytesI]
  · obtain ⟨ys, h1, h2, h3, h5⟩ := numberOf_dig (m := m) (by omega) (by omega)
    have a4 := t23 fuel n false ys (by simp) (numberOf_bytes h1)
    rw [h3] at a4
    simp only [hb, if_false, h1, h2] at a1 a2
    cases hsx : strip (dig 4 m []) with
    | nil =>
      rw [hsx] at a2
      simp [htt, hlin, hcall, a1, a2, a3, a4, c0, bytesI]
    | cons b t =>
      rw [hsx] at a2
      by_cases hb : 128 ≤ b
      · simp only [hb, if_true] at a2
        simp [htt, hlin, hcall, a1, a2, a3, a4, c0, bytesI]
      · simp only [hb, if_false] at a2
        simp [htt, hlin, hcall, a1, a2, a3, a4, c0, bytesI]
end Go.Proofs.Ytmehkdomnhgmeaa
