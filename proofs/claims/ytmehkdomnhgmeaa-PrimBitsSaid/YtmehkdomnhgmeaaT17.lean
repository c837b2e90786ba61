/- What the reference's Bits hands back: for every row of bytes. -/
import Derived.Test.YtmehkdomnhgmeaaT16
namespace Go.Proofs.Ytmehkdomnhgmeaa
open Go Go.VM
set_option linter.unusedSimpArgs false
set_option linter.unusedVariables false
set_option maxRecDepth 100000
set_option maxHeartbeats 4000000

theorem pow_step (l : Int) (m : Nat) : l % 2 ^ (m + 1) = 0 ↔ l % 2 = 0 ∧ (l / 2) % 2 ^ m = 0 := by
  have hp : (2 : Int) ^ (m + 1) = 2 * 2 ^ m := by rw [Int.pow_succ, Int.mul_comm]
  rw [← Int.dvd_iff_emod_eq_zero, ← Int.dvd_iff_emod_eq_zero, ← Int.dvd_iff_emod_eq_zero, hp]
  constructor
  · rintro ⟨c, hc⟩
    refine ⟨⟨2 ^ m * c, by rw [hc, Int.mul_assoc]⟩, ⟨c, ?_⟩⟩
    rw [hc, Int.mul_assoc, Int.mul_ediv_cancel_left _ (by omega)]
  · rintro ⟨⟨c, hc⟩, ⟨d, hd⟩⟩
    refine ⟨d, ?_⟩
    rw [hc, Int.mul_ediv_cancel_left _ (by omega)] at hd
    rw [hc, hd, Int.mul_assoc]

theorem loop17 {C : Ctx} (htt : C.tt = env.tt) (hlin : C.lin = [47]) {fuel : Nat} {c : Code} (hc : loopAt 5 Try.f17 = some c) (x : Int) (t : List Int) (x0 : 0 ≤ x) (x1 : x < 256) :
    ∀ (m : Nat) (i : Int) (l : Int) (k : Nat) (st : St), 0 ≤ i → i + m = x → 0 ≤ l → l < 256 → m < k →
      st.trim 0 [0, 5, 6] = ⟨[(0, .d (.nums .u8 false (x :: t))), (5, .d (.int .i64 l)), (6, .d (.int .i64 i))], [], []⟩ →
      iter (ev C fuel c) 0 [0, 5, 6] [0, 2, 3, 4] k st = if l % 2 ^ m = 0 then some (.exit 0, ⟨[(0, .d (.nums .u8 false (x :: t)))], [], []⟩) else
        some (.ret, ⟨[(0, .d (.nums .u8 false (x :: t))), (2, .d (.nums .u8 true [])), (3, .d (.int .i64 0)), (4, .d (.int .i64 7))], [], []⟩) := by
  simp [loopAt, findLoop, Try.f17] at hc
  subst hc
  intro m
  induction m with
  | zero =>
    intro i l k st hi hx l0 l1 hk hst
    obtain ⟨k, rfl⟩ : ∃ j, k = j + 1 := ⟨k - 1, by omega⟩
    have e0 : ¬ (i < x) := by omega
    have e1 : x ≤ 9223372036854775807 := by omega
    have e2 : -9223372036854775808 ≤ x := by omega
    rw [iter_eq, hst]
    simp [htt, hlin, e0, e1, e2]
  | succ m ih =>
    intro i l k st hi hx l0 l1 hk hst
    obtain ⟨k, rfl⟩ : ∃ j, k = j + 1 := ⟨k - 1, by omega⟩
    have e0 : i < x := by omega
    have e1 : x ≤ 9223372036854775807 := by omega
    have e2 : -9223372036854775808 ≤ x := by omega
    have e3 : i + 1 ≤ 9223372036854775807 := by omega
    have e4 : -9223372036854775808 ≤ i + 1 := by omega
    have hm : Int.tmod l 2 = l % 2 := Int.tmod_eq_emod_of_nonneg l0
    have hd : Int.tdiv l 2 = l / 2 := Int.tdiv_eq_ediv_of_nonneg l0
    have e5 : l % 2 ≤ 9223372036854775807 := by omega
    have e6 : -9223372036854775808 ≤ l % 2 := by omega
    have e7 : l / 2 ≤ 9223372036854775807 := by omega
    have e8 : -9223372036854775808 ≤ l / 2 := by omega
    have ih' := fun st h => ih (i + 1) (l / 2) k st (by omega) (by omega) (by omega) (by omega) (by omega) h
    rw [iter_eq, hst]
    by_cases h : l % 2 = 0
    · have h1 : ¬ (l % 2 = 1) := by omega
      simp only [pow_step, h, true_and]
      simp [htt, hlin, e0, e1, e2, e3, e4, hm, hd, e5, e6, e7, e8, h, h1, ih']
    · have h1 : l % 2 = 1 := by omega
      simp only [pow_step, h, false_and]
      simp [htt, hlin, e0, e1, e2, e3, e4, hm, hd, e5, e6, e7, e8, h, h1]

theorem t17 (fuel n : Nat) (nl : Bool) (xs : List Int) (hn : nl = true → xs = []) (hx : xs.length ≤ 140737488355328) (hb : ∀ x ∈ xs, 0 ≤ x ∧ x < 256) :
    callN env (fuel + 100) (n+1) 17 [.d (.nums .u8 nl xs)] = some (match bitsOf xs with
    | none => ⟨[.d (.nums .u8 true []), .d (.int .i64 0), .d (.int .i64 7)], []⟩
    | some (t, x) => ⟨[.d (.nums .u8 false t), .d (.int .i64 x), .d (.int .i64 0)], [0]⟩) := by
  rw [callN_run (fn := Try.f17) rfl rfl rfl (by simp [Try.ntmps17])]
  generalize hC : env.ctx 17 (callN env (fuel + 100) n) = C
  have htt : C.tt = env.tt := by rw [← hC]; rfl
  have hlin : C.lin = [47] := by rw [← hC]; rfl
  have hl1 : C.live 5 = [0, 5, 6] := by rw [← hC]; rfl
  have hl2 : C.live 100005 = [0, 2, 3, 4] := by rw [← hC]; rfl
  have hl3 : C.live 200010 = [] := by rw [← hC]; rfl
  rcases xs with _ | ⟨x, t⟩
  · simp [htt, hlin, bitsOf]
  · have hnl : nl = false := by cases nl <;> simp at hn ⊢
    subst hnl
    obtain ⟨x0, x1⟩ := hb x (List.mem_cons_self ..)
    simp only [List.length_cons] at hx
    have e1 : (1 : Int) ≤ (t.length : Int) + 1 := by omega
    have e2 : t.length ≤ 140737488355328 := by omega
    have e3 : ¬ ((t.length : Int) + 1 = 0) := by omega
    have w1 : x ≤ 9223372036854775807 := by omega
    have w2 : -9223372036854775808 ≤ x := by omega
    by_cases h7 : 7 < x
    · simp [htt, hlin, bitsOf, h7, e3]
    · rcases List.eq_nil_or_concat t with rfl | ⟨ys, l, rfl⟩
      · by_cases h0 : x = 0
        · subst h0
          have hL := fun st h => @loop17 C htt hlin (fuel + 100) _ rfl 0 [] (by omega) (by omega) 0 0 0 (fuel + 100) st (by omega) (by omega) (by omega) (by omega) (by omega) h
          simp [htt, hlin, bitsOf, ev_loop, hl1, hl2, hl3, hL]
        · simp [htt, hlin, bitsOf, h7, h0]
      · simp only [List.concat_eq_append] at *
        obtain ⟨l0, l1⟩ := hb l (by simp)
        simp only [List.length_append, List.length_cons, List.length_nil] at hx e1 e2 e3
        have hL := fun st h => @loop17 C htt hlin (fuel + 100) _ rfl x (ys ++ [l]) x0 x1 x.toNat 0 l (fuel + 100) st (by omega) (by omega) l0 l1 (by omega) h
        have e4 : (1 : Int) ≤ (ys.length : Int) + 1 + 1 := by omega
        have e5 : ¬ ((ys.length : Int) + 1 = 0) := by omega
        have e6 : ¬ ((ys.length : Int) + 1 + 1 = 0) := by omega
        have e7 : ys.length + 1 ≤ 140737488355328 := by omega
        have e8 : (ys.length : Int) + 1 ≤ 9223372036854775807 := by omega
        have e9 : (-9223372036854775808 : Int) ≤ (ys.length : Int) + 1 := by omega
        have e10 : ¬ ((ys.length : Int) + 1 + 1 = 1) := by omega
        have e11 : l ≤ 9223372036854775807 := by omega
        have e12 : -9223372036854775808 ≤ l := by omega
        have e13 : (0 : Int) ≤ (ys.length : Int) + 1 := by omega
        by_cases h0 : x = 0
        · subst h0
          simp at hL
          simp [htt, hlin, bitsOf, ev_loop, hl1, hl2, hl3, hL, e4, e5, e6, e7, e8, e9, e10, e11, e12, e13]
        · by_cases hz : l % 2 ^ x.toNat = 0
          · simp [htt, hlin, bitsOf, ev_loop, hl1, hl2, hl3, hL, e4, e5, e6, e7, e8, e9, e10, e11, e12, e13, h0, h7, hz, w1, w2]
          · simp [htt, hlin, bitsOf, ev_loop, hl1, hl2, hl3, hL, e4, e5, e6, e7, e8, e9, e10, e11, e12, e13, h0, h7, hz, w1, w2]
end Go.Proofs.Ytmehkdomnhgmeaa
