/- limb.Bit, modp.Exp: what their answers are like. -/
import Derived.Test.YtjmcgdhekjkjfaaDoorSI
import Derived.Test.YtjmcgdhekjkjfaaDoorSH
set_option linter.unusedSimpArgs false
set_option linter.unusedVariables false
namespace Go.Proofs.YtjmcgdhekjkjfaaDoor
open Go Go.VM
set_option maxRecDepth 100000
set_option maxHeartbeats 4000000
theorem ok6 {v : V} (h : s6.ok v = true) : ∃ a0 a1 a2 a3 a4 a5, v = .d (.agg [.int .u64 a0, .int .u64 a1, .int .u64 a2, .int .u64 a3, .int .u64 a4, .int .u64 a5]) := ⟨_, _, _, _, _, _, (okSh_mk h).symm⟩
theorem okI {v : V} (h : sI.ok v = true) : ∃ i, v = .d (.int .i64 i) := ⟨_, (okSh_mk h).symm⟩
theorem ok13 {v : V} (h : s13.ok v = true) : ∃ a0 a1 a2 a3 a4 a5 a6 a7 a8 a9 a10 a11 a12, v = .d (.agg [.int .u64 a0, .int .u64 a1, .int .u64 a2, .int .u64 a3, .int .u64 a4, .int .u64 a5, .int .u64 a6, .int .u64 a7, .int .u64 a8, .int .u64 a9, .int .u64 a10, .int .u64 a11, .int .u64 a12]) := ⟨_, _, _, _, _, _, _, _, _, _, _, _, _, (okSh_mk h).symm⟩
theorem ok18 {v : V} (h : s18.ok v = true) : ∃ a0 a1 a2 a3 a4 a5 a6 a7 a8 a9 a10 a11 a12 a13 a14 a15 a16 a17, v = .d (.agg [.int .u64 a0, .int .u64 a1, .int .u64 a2, .int .u64 a3, .int .u64 a4, .int .u64 a5, .int .u64 a6, .int .u64 a7, .int .u64 a8, .int .u64 a9, .int .u64 a10, .int .u64 a11, .int .u64 a12, .int .u64 a13, .int .u64 a14, .int .u64 a15, .int .u64 a16, .int .u64 a17]) := ⟨_, _, _, _, _, _, _, _, _, _, _, _, _, _, _, _, _, _, (okSh_mk h).symm⟩
theorem okCons {s : Sh} {l : List Sh} {vs : List V} (h : okAll (s :: l) vs = true) : ∃ v m, vs = v :: m ∧ s.ok v = true ∧ okAll l m = true := by
  cases vs with
  | nil => simp [okAll] at h
  | cons v m => simp only [okAll, Bool.and_eq_true] at h; exact ⟨v, m, rfl, h.1, h.2⟩
theorem okNil {vs : List V} (h : okAll [] vs = true) : vs = [] := by
  cases vs with
  | nil => rfl
  | cons v m => simp [okAll] at h
theorem tt_Bit : Tot (envG gEs) 400 20 121 [s6, sI] [sU] := by
  intro args ha
  obtain ⟨v0, vs, rfl, h0, ha⟩ := okCons ha
  obtain ⟨v1, vs, rfl, h1, ha⟩ := okCons ha
  obtain rfl := okNil ha
  obtain ⟨a0, a1, a2, a3, a4, a5, rfl⟩ := ok6 h0
  obtain ⟨i, rfl⟩ := okI h1
  clear ha h0 h1
  have hs : ∀ F, okRes [sU] (callN (envG gEs) F 20 121 [.d (.agg [.int .u64 a0, .int .u64 a1, .int .u64 a2, .int .u64 a3, .int .u64 a4, .int .u64 a5]), .d (.int .i64 i)]) = true := by
    intro F
    by_cases h2 : i < 0
    · skip
      rw [callN_run (fn := Tryd.f121) rfl rfl rfl (by simp [Tryd.ntmps121])]
      generalize hC : (envG gEs).ctx 121 (callN (envG gEs) F (19)) (callP (envG gEs) F (19)) = C
      have htt : C.tt = (envG gEs).tt := by rw [← hC]; rfl
      have hlin : C.lin = [] := by rw [← hC]; rfl
      have hreg : C.reg = reg121 := by rw [← hC]; rfl
      have hcall : C.call = callN (envG gEs) F (19) := by rw [← hC]; rfl
      have hcallP : C.callP = callP (envG gEs) F (19) := by rw [← hC]; rfl
      clear hC
      simp [htt, hlin, hreg, reg121, hcall, hcallP, h2, okRes, okAll, Sh.ok, CS.ok, sU]
    · by_cases h3 : 384 ≤ i
      · skip
        rw [callN_run (fn := Tryd.f121) rfl rfl rfl (by simp [Tryd.ntmps121])]
        generalize hC : (envG gEs).ctx 121 (callN (envG gEs) F (19)) (callP (envG gEs) F (19)) = C
        have htt : C.tt = (envG gEs).tt := by rw [← hC]; rfl
        have hlin : C.lin = [] := by rw [← hC]; rfl
        have hreg : C.reg = reg121 := by rw [← hC]; rfl
        have hcall : C.call = callN (envG gEs) F (19) := by rw [← hC]; rfl
        have hcallP : C.callP = callP (envG gEs) F (19) := by rw [← hC]; rfl
        clear hC
        simp [htt, hlin, hreg, reg121, hcall, hcallP, h2, h3, okRes, okAll, Sh.ok, CS.ok, sU]
      · obtain ⟨j, rfl⟩ : ∃ j : Nat, i = j := ⟨i.toNat, by omega⟩
        obtain ⟨r, hr⟩ : ∃ r : Nat, (j : Int).tmod 64 = r := ⟨j % 64, by rw [Int.tmod_eq_emod_of_nonneg (by omega)]; omega⟩
        have hr0 : (r : Int) < 64 := by rw [← hr, Int.tmod_eq_emod_of_nonneg (by omega)]; omega
        have hr1 : (r : Int) ≤ 9223372036854775807 := by omega
        have hr2 : (-9223372036854775808 : Int) ≤ r := by omega
        have hq : (j : Int) / 64 = 0 ∨ (j : Int) / 64 = 1 ∨ (j : Int) / 64 = 2 ∨ (j : Int) / 64 = 3 ∨ (j : Int) / 64 = 4 ∨ (j : Int) / 64 = 5 := by omega
        rcases hq with hq | hq | hq | hq | hq | hq
        all_goals
          skip
          rw [callN_run (fn := Tryd.f121) rfl rfl rfl (by simp [Tryd.ntmps121])]
          generalize hC : (envG gEs).ctx 121 (callN (envG gEs) F (19)) (callP (envG gEs) F (19)) = C
          have htt : C.tt = (envG gEs).tt := by rw [← hC]; rfl
          have hlin : C.lin = [] := by rw [← hC]; rfl
          have hreg : C.reg = reg121 := by rw [← hC]; rfl
          have hcall : C.call = callN (envG gEs) F (19) := by rw [← hC]; rfl
          have hcallP : C.callP = callP (envG gEs) F (19) := by rw [← hC]; rfl
          clear hC
          simp [htt, hlin, hreg, reg121, hcall, hcallP, h2, h3, hq, hr, hr1, hr2, okRes, okAll, Sh.ok, CS.ok, sU]
  exact hs 400
end Go.Proofs.YtjmcgdhekjkjfaaDoor
set_option linter.unusedSimpArgs false
set_option linter.unusedVariables false
namespace Go.Proofs.YtjmcgdhekjkjfaaDoor
open Go Go.VM
set_option maxRecDepth 100000
set_option maxHeartbeats 4000000
theorem iter_trim {B : St → Option (Ex × St)} {n F : Nat} {live out : List Nat} {s s2 : St} (hF : 0 < F) (h : s.trim n live = s2.trim n live) : iter B n live out F s = iter B n live out F s2 := by
  obtain ⟨k, rfl⟩ : ∃ j, F = j + 1 := ⟨F - 1, by omega⟩
  rw [iter_eq, iter_eq, h]
theorem loop_exp {m : Nat} {C : Ctx} {F : Nat} (hC : (envG gEs).ctx 95 (callN (envG gEs) F (m)) (callP (envG gEs) F (m)) = C) {c : Code} (hc : loopAt 4 Tryd.f95 = some c) (hF : 400 ≤ F) (hm : 20 ≤ m) (a0 a1 a2 a3 a4 a5 e0 e1 e2 e3 e4 e5 m0 m1 m2 m3 m4 m5 m6 m7 m8 m9 m10 m11 m12 b0 b1 b2 b3 b4 b5 : Int) :
    ∀ (i k : Nat) (o0 o1 o2 o3 o4 o5 : Int) (st : St), i ≤ 384 → i < k → st.trim 6 [4, 5, 6, 7, 8, 9] = ⟨[(4, .ptr 1 0), (5, .ptr 2 0), (6, .ptr 3 0), (7, .ptr 4 0), (8, .ptr 5 0), (9, .d (.int .i64 ((i : Int) - 1)))], [some (.cells false [.d (.int .u64 a0), .d (.int .u64 a1), .d (.int .u64 a2), .d (.int .u64 a3), .d (.int .u64 a4), .d (.int .u64 a5)]), some (.cells false [.d (.int .u64 e0), .d (.int .u64 e1), .d (.int .u64 e2), .d (.int .u64 e3), .d (.int .u64 e4), .d (.int .u64 e5)]), some (.cells false [.d (.int .u64 m0), .d (.int .u64 m1), .d (.int .u64 m2), .d (.int .u64 m3), .d (.int .u64 m4), .d (.int .u64 m5), .d (.int .u64 m6), .d (.int .u64 m7), .d (.int .u64 m8), .d (.int .u64 m9), .d (.int .u64 m10), .d (.int .u64 m11), .d (.int .u64 m12)]), some (.cells false [.d (.int .u64 0), .d (.int .u64 0), .d (.int .u64 0), .d (.int .u64 0), .d (.int .u64 0), .d (.int .u64 0)]), some (.cells false [.d (.int .u64 b0), .d (.int .u64 b1), .d (.int .u64 b2), .d (.int .u64 b3), .d (.int .u64 b4), .d (.int .u64 b5)]), some (.cells false [.d (.int .u64 o0), .d (.int .u64 o1), .d (.int .u64 o2), .d (.int .u64 o3), .d (.int .u64 o4), .d (.int .u64 o5)])], []⟩ →
      ∃ d0 d1 d2 d3 d4 d5, iter (ev C F c) 6 [4, 5, 6, 7, 8, 9] [5, 6, 8] k st = some (.exit 0, ⟨[(5, .ptr 2 0), (6, .ptr 3 0), (8, .ptr 5 0)], [some (.cells false [.d (.int .u64 a0), .d (.int .u64 a1), .d (.int .u64 a2), .d (.int .u64 a3), .d (.int .u64 a4), .d (.int .u64 a5)]), some (.cells false [.d (.int .u64 e0), .d (.int .u64 e1), .d (.int .u64 e2), .d (.int .u64 e3), .d (.int .u64 e4), .d (.int .u64 e5)]), some (.cells false [.d (.int .u64 m0), .d (.int .u64 m1), .d (.int .u64 m2), .d (.int .u64 m3), .d (.int .u64 m4), .d (.int .u64 m5), .d (.int .u64 m6), .d (.int .u64 m7), .d (.int .u64 m8), .d (.int .u64 m9), .d (.int .u64 m10), .d (.int .u64 m11), .d (.int .u64 m12)]), some (.cells false [.d (.int .u64 0), .d (.int .u64 0), .d (.int .u64 0), .d (.int .u64 0), .d (.int .u64 0), .d (.int .u64 0)]), some (.cells false [.d (.int .u64 b0), .d (.int .u64 b1), .d (.int .u64 b2), .d (.int .u64 b3), .d (.int .u64 b4), .d (.int .u64 b5)]), some (.cells false [.d (.int .u64 d0), .d (.int .u64 d1), .d (.int .u64 d2), .d (.int .u64 d3), .d (.int .u64 d4), .d (.int .u64 d5)])], []⟩) := by
  have htt : C.tt = (envG gEs).tt := by rw [← hC]; rfl
  have hlin : C.lin = [] := by rw [← hC]; rfl
  have hreg : C.reg = reg95 := by rw [← hC]; rfl
  have hcall : C.call = callN (envG gEs) F (m) := by rw [← hC]; rfl
  have hcallP : C.callP = callP (envG gEs) F (m) := by rw [← hC]; rfl
  have hlv_4 : C.live 4 = [4, 5, 6, 7, 8, 9] := by rw [← hC]; rfl
  have hlv_100004 : C.live 100004 = [5, 6, 8] := by rw [← hC]; rfl
  have hlv_200007 : C.live 200007 = [] := by rw [← hC]; rfl
  have hlv_250007 : C.live 250007 = [] := by rw [← hC]; rfl
  have hev : ∀ st, ev C F c st = ev C F ((loopAt 4 Tryd.f95).getD .skip) st := fun st => by rw [hc]; rfl
  intro i
  induction i with
  | zero =>
    intro k o0 o1 o2 o3 o4 o5 st hi hk hst
    obtain ⟨k, rfl⟩ : ∃ j, k = j + 1 := ⟨k - 1, by omega⟩
    refine ⟨o0, o1, o2, o3, o4, o5, ?_⟩
    show iter _ _ _ _ _ _ = _
    rw [iter_eq, hst, hev]
    simp [loopAt, findLoop, Tryd.f95, htt, hlin, hreg, reg95, hcall, hcallP, hlv_4, hlv_100004, hlv_200007, hlv_250007]
  | succ i ih =>
    intro k o0 o1 o2 o3 o4 o5 st hi hk hst
    obtain ⟨k, rfl⟩ : ∃ j, k = j + 1 := ⟨k - 1, by omega⟩
    have z0 : (((i + 1 : Nat) : Int) - 1) = i := by omega
    rw [z0] at hst
    have z4 : (-9223372036854775808 : Int) ≤ i - 1 := by omega
    have z5 : (i : Int) - 1 ≤ 9223372036854775807 := by omega
    obtain ⟨p0, p1, p2, p3, p4, p5, kp⟩ := (tt_product.mono hF hm).get6 (args := [.d (.agg [.int .u64 o0, .int .u64 o1, .int .u64 o2, .int .u64 o3, .int .u64 o4, .int .u64 o5]), .d (.agg [.int .u64 o0, .int .u64 o1, .int .u64 o2, .int .u64 o3, .int .u64 o4, .int .u64 o5]), .d (.agg [.int .u64 m0, .int .u64 m1, .int .u64 m2, .int .u64 m3, .int .u64 m4, .int .u64 m5, .int .u64 m6, .int .u64 m7, .int .u64 m8, .int .u64 m9, .int .u64 m10, .int .u64 m11, .int .u64 m12])]) rfl
    obtain ⟨bt, kb⟩ := (tt_Bit.mono hF hm).get1 (args := [.d (.agg [.int .u64 e0, .int .u64 e1, .int .u64 e2, .int .u64 e3, .int .u64 e4, .int .u64 e5]), .d (.int .i64 (i : Int))]) rfl
    obtain ⟨q0, q1, q2, q3, q4, q5, kq⟩ := (tt_product.mono hF hm).get6 (args := [.d (.agg [.int .u64 p0, .int .u64 p1, .int .u64 p2, .int .u64 p3, .int .u64 p4, .int .u64 p5]), .d (.agg [.int .u64 b0, .int .u64 b1, .int .u64 b2, .int .u64 b3, .int .u64 b4, .int .u64 b5]), .d (.agg [.int .u64 m0, .int .u64 m1, .int .u64 m2, .int .u64 m3, .int .u64 m4, .int .u64 m5, .int .u64 m6, .int .u64 m7, .int .u64 m8, .int .u64 m9, .int .u64 m10, .int .u64 m11, .int .u64 m12])]) rfl
    obtain ⟨r0, r1, r2, r3, r4, r5, kr⟩ := (tt_Pick.mono hF (show 12 ≤ m by omega)).get6 (args := [.d (.int .u64 bt), .d (.agg [.int .u64 p0, .int .u64 p1, .int .u64 p2, .int .u64 p3, .int .u64 p4, .int .u64 p5]), .d (.agg [.int .u64 q0, .int .u64 q1, .int .u64 q2, .int .u64 q3, .int .u64 q4, .int .u64 q5])]) rfl
    have ih' := fun st h => ih k r0 r1 r2 r3 r4 r5 st (by omega) (by omega) h
    clear ih
    rw [iter_eq, hst, hev]
    simp [loopAt, findLoop, Tryd.f95, htt, hlin, hreg, reg95, hcall, hcallP, hlv_4, hlv_100004, hlv_200007, hlv_250007, kp, kb, kq, kr, z4, z5]
    exact ih' _ (by simp)
theorem tt_Exp : Tot (envG gEs) 400 30 95 [s6, s6, s13] [s6] := by
  intro args ha
  obtain ⟨v0, vs, rfl, h0, ha⟩ := okCons ha
  obtain ⟨v1, vs, rfl, h1, ha⟩ := okCons ha
  obtain ⟨v2, vs, rfl, h2, ha⟩ := okCons ha
  obtain rfl := okNil ha
  obtain ⟨a0, a1, a2, a3, a4, a5, rfl⟩ := ok6 h0
  obtain ⟨e0, e1, e2, e3, e4, e5, rfl⟩ := ok6 h1
  obtain ⟨m0, m1, m2, m3, m4, m5, m6, m7, m8, m9, m10, m11, m12, rfl⟩ := ok13 h2
  clear ha h0 h1 h2
  have hs : ∀ F, 400 ≤ F → ∃ x0 x1 x2 x3 x4 x5, callN (envG gEs) F 30 95 [.d (.agg [.int .u64 a0, .int .u64 a1, .int .u64 a2, .int .u64 a3, .int .u64 a4, .int .u64 a5]), .d (.agg [.int .u64 e0, .int .u64 e1, .int .u64 e2, .int .u64 e3, .int .u64 e4, .int .u64 e5]), .d (.agg [.int .u64 m0, .int .u64 m1, .int .u64 m2, .int .u64 m3, .int .u64 m4, .int .u64 m5, .int .u64 m6, .int .u64 m7, .int .u64 m8, .int .u64 m9, .int .u64 m10, .int .u64 m11, .int .u64 m12])] = some ⟨[.d (.agg [.int .u64 x0, .int .u64 x1, .int .u64 x2, .int .u64 x3, .int .u64 x4, .int .u64 x5])], []⟩ := by
    intro F hF
    obtain ⟨b0, b1, b2, b3, b4, b5, kb⟩ := (tt_product.mono hF (show 20 ≤ 29 by omega)).get6 (args := [.d (.agg [.int .u64 a0, .int .u64 a1, .int .u64 a2, .int .u64 a3, .int .u64 a4, .int .u64 a5]), .d (.agg [.int .u64 m7, .int .u64 m8, .int .u64 m9, .int .u64 m10, .int .u64 m11, .int .u64 m12]), .d (.agg [.int .u64 m0, .int .u64 m1, .int .u64 m2, .int .u64 m3, .int .u64 m4, .int .u64 m5, .int .u64 m6, .int .u64 m7, .int .u64 m8, .int .u64 m9, .int .u64 m10, .int .u64 m11, .int .u64 m12])]) rfl
    obtain ⟨o0, o1, o2, o3, o4, o5, ko⟩ := (tt_product.mono hF (show 20 ≤ 29 by omega)).get6 (args := [.d (.agg [.int .u64 1, .int .u64 0, .int .u64 0, .int .u64 0, .int .u64 0, .int .u64 0]), .d (.agg [.int .u64 m7, .int .u64 m8, .int .u64 m9, .int .u64 m10, .int .u64 m11, .int .u64 m12]), .d (.agg [.int .u64 m0, .int .u64 m1, .int .u64 m2, .int .u64 m3, .int .u64 m4, .int .u64 m5, .int .u64 m6, .int .u64 m7, .int .u64 m8, .int .u64 m9, .int .u64 m10, .int .u64 m11, .int .u64 m12])]) rfl
    rw [callN_run (fn := Tryd.f95) rfl rfl rfl (by simp [Tryd.ntmps95])]
    generalize hC : (envG gEs).ctx 95 (callN (envG gEs) F (29)) (callP (envG gEs) F (29)) = C
    have htt : C.tt = (envG gEs).tt := by rw [← hC]; rfl
    have hlin : C.lin = [] := by rw [← hC]; rfl
    have hreg : C.reg = reg95 := by rw [← hC]; rfl
    have hcall : C.call = callN (envG gEs) F (29) := by rw [← hC]; rfl
    have hcallP : C.callP = callP (envG gEs) F (29) := by rw [← hC]; rfl
    have hlv_4 : C.live 4 = [4, 5, 6, 7, 8, 9] := by rw [← hC]; rfl
    have hlv_100004 : C.live 100004 = [5, 6, 8] := by rw [← hC]; rfl
    have hlv_200007 : C.live 200007 = [] := by rw [← hC]; rfl
    have hlv_250007 : C.live 250007 = [] := by rw [← hC]; rfl
    have hS : (⟨[(4, .ptr 1 0), (5, .ptr 2 0), (6, .ptr 3 0), (7, .ptr 4 0), (8, .ptr 5 0), (9, .d (.int .i64 383))], [some (.cells false [.d (.int .u64 a0), .d (.int .u64 a1), .d (.int .u64 a2), .d (.int .u64 a3), .d (.int .u64 a4), .d (.int .u64 a5)]), some (.cells false [.d (.int .u64 e0), .d (.int .u64 e1), .d (.int .u64 e2), .d (.int .u64 e3), .d (.int .u64 e4), .d (.int .u64 e5)]), some (.cells false [.d (.int .u64 m0), .d (.int .u64 m1), .d (.int .u64 m2), .d (.int .u64 m3), .d (.int .u64 m4), .d (.int .u64 m5), .d (.int .u64 m6), .d (.int .u64 m7), .d (.int .u64 m8), .d (.int .u64 m9), .d (.int .u64 m10), .d (.int .u64 m11), .d (.int .u64 m12)]), some (.cells false [.d (.int .u64 0), .d (.int .u64 0), .d (.int .u64 0), .d (.int .u64 0), .d (.int .u64 0), .d (.int .u64 0)]), some (.cells false [.d (.int .u64 b0), .d (.int .u64 b1), .d (.int .u64 b2), .d (.int .u64 b3), .d (.int .u64 b4), .d (.int .u64 b5)]), some (.cells false [.d (.int .u64 o0), .d (.int .u64 o1), .d (.int .u64 o2), .d (.int .u64 o3), .d (.int .u64 o4), .d (.int .u64 o5)])], []⟩ : St).trim 6 [4, 5, 6, 7, 8, 9] = ⟨[(4, .ptr 1 0), (5, .ptr 2 0), (6, .ptr 3 0), (7, .ptr 4 0), (8, .ptr 5 0), (9, .d (.int .i64 383))], [some (.cells false [.d (.int .u64 a0), .d (.int .u64 a1), .d (.int .u64 a2), .d (.int .u64 a3), .d (.int .u64 a4), .d (.int .u64 a5)]), some (.cells false [.d (.int .u64 e0), .d (.int .u64 e1), .d (.int .u64 e2), .d (.int .u64 e3), .d (.int .u64 e4), .d (.int .u64 e5)]), some (.cells false [.d (.int .u64 m0), .d (.int .u64 m1), .d (.int .u64 m2), .d (.int .u64 m3), .d (.int .u64 m4), .d (.int .u64 m5), .d (.int .u64 m6), .d (.int .u64 m7), .d (.int .u64 m8), .d (.int .u64 m9), .d (.int .u64 m10), .d (.int .u64 m11), .d (.int .u64 m12)]), some (.cells false [.d (.int .u64 0), .d (.int .u64 0), .d (.int .u64 0), .d (.int .u64 0), .d (.int .u64 0), .d (.int .u64 0)]), some (.cells false [.d (.int .u64 b0), .d (.int .u64 b1), .d (.int .u64 b2), .d (.int .u64 b3), .d (.int .u64 b4), .d (.int .u64 b5)]), some (.cells false [.d (.int .u64 o0), .d (.int .u64 o1), .d (.int .u64 o2), .d (.int .u64 o3), .d (.int .u64 o4), .d (.int .u64 o5)])], []⟩ := by simp
    obtain ⟨d0, d1, d2, d3, d4, d5, hd⟩ := loop_exp hC rfl hF (by omega) a0 a1 a2 a3 a4 a5 e0 e1 e2 e3 e4 e5 m0 m1 m2 m3 m4 m5 m6 m7 m8 m9 m10 m11 m12 b0 b1 b2 b3 b4 b5 384 F o0 o1 o2 o3 o4 o5 _ (by omega) (by omega) hS
    obtain ⟨x0, x1, x2, x3, x4, x5, kx⟩ := (tt_product.mono hF (show 20 ≤ 29 by omega)).get6 (args := [.d (.agg [.int .u64 d0, .int .u64 d1, .int .u64 d2, .int .u64 d3, .int .u64 d4, .int .u64 d5]), .d (.agg [.int .u64 1, .int .u64 0, .int .u64 0, .int .u64 0, .int .u64 0, .int .u64 0]), .d (.agg [.int .u64 m0, .int .u64 m1, .int .u64 m2, .int .u64 m3, .int .u64 m4, .int .u64 m5, .int .u64 m6, .int .u64 m7, .int .u64 m8, .int .u64 m9, .int .u64 m10, .int .u64 m11, .int .u64 m12])]) rfl
    have hL := fun s h => (iter_trim (s := s) (by omega) (Eq.trans h hS.symm)).trans hd
    clear hd hS hC
    refine ⟨x0, x1, x2, x3, x4, x5, ?_⟩
    simp [htt, hlin, hreg, reg95, hcall, hcallP, hlv_4, hlv_100004, hlv_200007, hlv_250007, kb, ko, ev_loop]
    rw [hL _ (by simp)]
    simp [htt, hlin, hreg, reg95, hcall, hcallP, hlv_4, hlv_100004, hlv_200007, hlv_250007, kx]
  obtain ⟨x0, x1, x2, x3, x4, x5, hd⟩ := hs 400 (Nat.le_refl _)
  rw [hd]
  rfl
end Go.Proofs.YtjmcgdhekjkjfaaDoor
set_option linter.unusedSimpArgs false
set_option linter.unusedVariables false
namespace Go.Proofs.YtjmcgdhekjkjfaaDoor
open Go Go.VM
set_option maxRecDepth 100000
set_option maxHeartbeats 4000000
def sPtF : Sh := .agg [.int .u64, .int .u64, .int .u64, .int .u64, .int .u64, .int .u64, .int .u64, .int .u64, .int .u64, .int .u64, .int .u64, .int .u64, .lit false]
def sPtT : Sh := .agg [.int .u64, .int .u64, .int .u64, .int .u64, .int .u64, .int .u64, .int .u64, .int .u64, .int .u64, .int .u64, .int .u64, .int .u64, .lit true]
def tabC : List Entry := [⟨92, [s6, s6, s13], [s6]⟩, ⟨147, [s6, s6, s13], [s6]⟩, ⟨93, [s6, s6, s13], [s6]⟩, ⟨95, [s6, s6, s13], [s6]⟩, ⟨122, [s6, s6], [s6]⟩, ⟨119, [s18, s18], [s18]⟩]
theorem tabC_ok : ∀ e ∈ tabC, Tot (envG gEs) 400 30 e.f e.as e.rs := by
  intro e he
  simp only [tabC, List.mem_cons, List.not_mem_nil, or_false] at he
  rcases he with rfl | rfl | rfl | rfl | rfl | rfl
  · exact tt_mAdd.mono (Nat.le_refl _) (by omega)
  · exact tt_mSub.mono (Nat.le_refl _) (by omega)
  · exact tt_mMul.mono (Nat.le_refl _) (by omega)
  · exact tt_Exp
  · exact tt_pmul.mono (Nat.le_refl _) (by omega)
  · exact tt_pAdd
theorem tt_oRest : Tot (envG gEs) 400 40 52 [s6] [s6] := tot_of (n := 10) tabC_ok (fun x b => by kernel_rfl)
theorem tt_oAdd : Tot (envG gEs) 400 40 54 [s6, s6] [s6] := tot_of (n := 10) tabC_ok (fun x b => by kernel_rfl)
theorem tt_oMul : Tot (envG gEs) 400 40 53 [s6, s6] [s6] := tot_of (n := 10) tabC_ok (fun x b => by kernel_rfl)
theorem tt_oInv : Tot (envG gEs) 400 40 55 [s6] [s6] := tot_of (n := 10) tabC_ok (fun x b => by kernel_rfl)
theorem tt_fInv : Tot (envG gEs) 400 40 123 [s6] [s6] := tot_of (n := 10) tabC_ok (fun x b => by kernel_rfl)
theorem tt_Of : Tot (envG gEs) 400 40 89 [sPtF] [s18] := tot_of (n := 10) tabC_ok (fun x b => by kernel_rfl)
theorem tt_OfT : Tot (envG gEs) 400 40 89 [sPtT] [s18] := tot_of (n := 10) tabC_ok (fun x b => by kernel_rfl)
theorem tt_G : Tot (envG gEs) 400 40 75 [] [sPtF] := tot_of (n := 10) tabC_ok (fun x b => by kernel_rfl)
theorem get18T {E : Env} {fuel n : Nat} {f : FuncId} {ss : List Sh} (h : Tot E fuel n f ss [s18]) {args : List V} (ha : okAll ss args = true) :
    ∃ d0 d1 d2 d3 d4 d5 d6 d7 d8 d9 d10 d11 d12 d13 d14 d15 d16 d17, callN E fuel n f args = some ⟨[.d (.agg [.int .u64 d0, .int .u64 d1, .int .u64 d2, .int .u64 d3, .int .u64 d4, .int .u64 d5, .int .u64 d6, .int .u64 d7, .int .u64 d8, .int .u64 d9, .int .u64 d10, .int .u64 d11, .int .u64 d12, .int .u64 d13, .int .u64 d14, .int .u64 d15, .int .u64 d16, .int .u64 d17])], []⟩ := by
  obtain ⟨vs, h1, h2⟩ := h.get ha
  have := okAll_mk [] h2
  rw [h1, ← this]
  exact ⟨_, _, _, _, _, _, _, _, _, _, _, _, _, _, _, _, _, _, rfl⟩
theorem tt_To : Tot (envG gEs) 400 50 91 [s18] [sPt] := by
  intro args ha
  obtain ⟨v0, vs, rfl, h0, ha⟩ := okCons ha
  obtain rfl := okNil ha
  obtain ⟨a0, a1, a2, a3, a4, a5, b0, b1, b2, b3, b4, b5, z0, z1, z2, z3, z4, z5, rfl⟩ := ok18 h0
  clear ha h0
  cases hz : (decide (z0 = 0) && decide (z1 = 0) && decide (z2 = 0) && decide (z3 = 0) && decide (z4 = 0) && decide (z5 = 0)) with
  | true =>
    have hs : ∀ F, callN (envG gEs) F 50 91 [.d (.agg [.int .u64 a0, .int .u64 a1, .int .u64 a2, .int .u64 a3, .int .u64 a4, .int .u64 a5, .int .u64 b0, .int .u64 b1, .int .u64 b2, .int .u64 b3, .int .u64 b4, .int .u64 b5, .int .u64 z0, .int .u64 z1, .int .u64 z2, .int .u64 z3, .int .u64 z4, .int .u64 z5])] = some ⟨[.d (.agg [.int .u64 0, .int .u64 0, .int .u64 0, .int .u64 0, .int .u64 0, .int .u64 0, .int .u64 0, .int .u64 0, .int .u64 0, .int .u64 0, .int .u64 0, .int .u64 0, .bool true])], []⟩ := by
      intro F
      rw [callN_run (fn := Tryd.f91) rfl rfl rfl (by simp [Tryd.ntmps91])]
      generalize hC : (envG gEs).ctx 91 (callN (envG gEs) F (49)) (callP (envG gEs) F (49)) = C
      have htt : C.tt = (envG gEs).tt := by rw [← hC]; rfl
      have hlin : C.lin = [] := by rw [← hC]; rfl
      have hreg : C.reg = reg91 := by rw [← hC]; rfl
      have hcall : C.call = callN (envG gEs) F (49) := by rw [← hC]; rfl
      have hcallP : C.callP = callP (envG gEs) F (49) := by rw [← hC]; rfl
      have hlv_200004 : C.live 200004 = [] := by rw [← hC]; rfl
      have hlv_250004 : C.live 250004 = [] := by rw [← hC]; rfl
      clear hC
      simp [htt, hlin, hreg, reg91, hcall, hcallP, hlv_200004, hlv_250004, bin_eq_agg, (u384_eq (G := gEs)), hz]
    rw [hs 400]
    rfl
  | false =>
    have hs : ∀ F, 400 ≤ F → ∃ x0 x1 x2 x3 x4 x5 y0 y1 y2 y3 y4 y5, callN (envG gEs) F 50 91 [.d (.agg [.int .u64 a0, .int .u64 a1, .int .u64 a2, .int .u64 a3, .int .u64 a4, .int .u64 a5, .int .u64 b0, .int .u64 b1, .int .u64 b2, .int .u64 b3, .int .u64 b4, .int .u64 b5, .int .u64 z0, .int .u64 z1, .int .u64 z2, .int .u64 z3, .int .u64 z4, .int .u64 z5])] = some ⟨[.d (.agg [.int .u64 x0, .int .u64 x1, .int .u64 x2, .int .u64 x3, .int .u64 x4, .int .u64 x5, .int .u64 y0, .int .u64 y1, .int .u64 y2, .int .u64 y3, .int .u64 y4, .int .u64 y5, .bool false])], []⟩ := by
      intro F hF
      obtain ⟨w0, w1, w2, w3, w4, w5, kw⟩ := (tt_pmul.mono hF (show 20 ≤ 49 by omega)).get6 (args := [.d (.agg [.int .u64 z0, .int .u64 z1, .int .u64 z2, .int .u64 z3, .int .u64 z4, .int .u64 z5]), .d (.agg [.int .u64 1, .int .u64 0, .int .u64 0, .int .u64 0, .int .u64 0, .int .u64 0])]) rfl
      obtain ⟨v0, v1, v2, v3, v4, v5, kv⟩ := (tt_fInv.mono hF (show 40 ≤ 49 by omega)).get6 (args := [.d (.agg [.int .u64 w0, .int .u64 w1, .int .u64 w2, .int .u64 w3, .int .u64 w4, .int .u64 w5])]) rfl
      obtain ⟨x0, x1, x2, x3, x4, x5, kx⟩ := (tt_pmul.mono hF (show 20 ≤ 49 by omega)).get6 (args := [.d (.agg [.int .u64 a0, .int .u64 a1, .int .u64 a2, .int .u64 a3, .int .u64 a4, .int .u64 a5]), .d (.agg [.int .u64 v0, .int .u64 v1, .int .u64 v2, .int .u64 v3, .int .u64 v4, .int .u64 v5])]) rfl
      obtain ⟨y0, y1, y2, y3, y4, y5, ky⟩ := (tt_pmul.mono hF (show 20 ≤ 49 by omega)).get6 (args := [.d (.agg [.int .u64 b0, .int .u64 b1, .int .u64 b2, .int .u64 b3, .int .u64 b4, .int .u64 b5]), .d (.agg [.int .u64 v0, .int .u64 v1, .int .u64 v2, .int .u64 v3, .int .u64 v4, .int .u64 v5])]) rfl
      refine ⟨x0, x1, x2, x3, x4, x5, y0, y1, y2, y3, y4, y5, ?_⟩
      rw [callN_run (fn := Tryd.f91) rfl rfl rfl (by simp [Tryd.ntmps91])]
      generalize hC : (envG gEs).ctx 91 (callN (envG gEs) F (49)) (callP (envG gEs) F (49)) = C
      have htt : C.tt = (envG gEs).tt := by rw [← hC]; rfl
      have hlin : C.lin = [] := by rw [← hC]; rfl
      have hreg : C.reg = reg91 := by rw [← hC]; rfl
      have hcall : C.call = callN (envG gEs) F (49) := by rw [← hC]; rfl
      have hcallP : C.callP = callP (envG gEs) F (49) := by rw [← hC]; rfl
      have hlv_200004 : C.live 200004 = [] := by rw [← hC]; rfl
      have hlv_250004 : C.live 250004 = [] := by rw [← hC]; rfl
      clear hC
      simp [htt, hlin, hreg, reg91, hcall, hcallP, hlv_200004, hlv_250004, bin_eq_agg, (u384_eq (G := gEs)), hz, kw, kv, kx, ky]
    obtain ⟨x0, x1, x2, x3, x4, x5, y0, y1, y2, y3, y4, y5, hs⟩ := hs 400 (Nat.le_refl _)
    rw [hs]
    rfl
theorem t_quiet (F n : Nat) (k : Int) : callN (envG gEs) F (n+1) 90 [.d (.int .i64 k)] = some ⟨[], []⟩ := by
  rw [callN_run (fn := Tryd.f90) rfl rfl rfl (by simp [Tryd.ntmps90])]
  generalize hC : (envG gEs).ctx 90 (callN (envG gEs) F (n)) (callP (envG gEs) F (n)) = C
  have htt : C.tt = (envG gEs).tt := by rw [← hC]; rfl
  have hlin : C.lin = [] := by rw [← hC]; rfl
  have hreg : C.reg = reg90 := by rw [← hC]; rfl
  have hcall : C.call = callN (envG gEs) F (n) := by rw [← hC]; rfl
  have hcallP : C.callP = callP (envG gEs) F (n) := by rw [← hC]; rfl
  clear hC
  simp [htt, hlin, hreg, reg90, hcall, hcallP]
end Go.Proofs.YtjmcgdhekjkjfaaDoor
set_option linter.unusedSimpArgs false
set_option linter.unusedVariables false
namespace Go.Proofs.YtjmcgdhekjkjfaaDoor
open Go Go.VM
set_option maxRecDepth 100000
set_option maxHeartbeats 8000000
theorem loop_times {m : Nat} {C : Ctx} {F : Nat} (hC : (envG gEs).ctx 88 (callN (envG gEs) F (m + 1)) (callP (envG gEs) F (m + 1)) = C) {c : Code} (hc : loopAt 3 Tryd.f88 = some c) (hF : 400 ≤ F) (hm : 40 ≤ m) (a0 a1 a2 a3 a4 a5 m0 m1 m2 m3 m4 m5 m6 m7 m8 m9 m10 m11 m12 m13 m14 m15 m16 m17 : Int) :
    ∀ (i k : Nat) (o0 o1 o2 o3 o4 o5 o6 o7 o8 o9 o10 o11 o12 o13 o14 o15 o16 o17 : Int) (st : St), i ≤ 384 → i < k → st.trim 4 [2, 3, 4, 6, 7, 8] = ⟨[(2, .fn 90 []), (3, .ptr 0 0), (4, .ptr 1 0), (6, .ptr 2 0), (7, .ptr 3 0), (8, .d (.int .i64 ((i : Int) - 1)))], [some (.cells false [.d (.int .u64 a0), .d (.int .u64 a1), .d (.int .u64 a2), .d (.int .u64 a3), .d (.int .u64 a4), .d (.int .u64 a5)]), some (.cells false [.d (.int .u64 m0), .d (.int .u64 m1), .d (.int .u64 m2), .d (.int .u64 m3), .d (.int .u64 m4), .d (.int .u64 m5), .d (.int .u64 m6), .d (.int .u64 m7), .d (.int .u64 m8), .d (.int .u64 m9), .d (.int .u64 m10), .d (.int .u64 m11), .d (.int .u64 m12), .d (.int .u64 m13), .d (.int .u64 m14), .d (.int .u64 m15), .d (.int .u64 m16), .d (.int .u64 m17)]), some (.cells false [.d (.int .u64 0), .d (.int .u64 0), .d (.int .u64 0), .d (.int .u64 0), .d (.int .u64 0), .d (.int .u64 0), .d (.int .u64 0), .d (.int .u64 0), .d (.int .u64 0), .d (.int .u64 0), .d (.int .u64 0), .d (.int .u64 0), .d (.int .u64 0), .d (.int .u64 0), .d (.int .u64 0), .d (.int .u64 0), .d (.int .u64 0), .d (.int .u64 0)]), some (.cells false [.d (.int .u64 o0), .d (.int .u64 o1), .d (.int .u64 o2), .d (.int .u64 o3), .d (.int .u64 o4), .d (.int .u64 o5), .d (.int .u64 o6), .d (.int .u64 o7), .d (.int .u64 o8), .d (.int .u64 o9), .d (.int .u64 o10), .d (.int .u64 o11), .d (.int .u64 o12), .d (.int .u64 o13), .d (.int .u64 o14), .d (.int .u64 o15), .d (.int .u64 o16), .d (.int .u64 o17)])], []⟩ →
      ∃ d0 d1 d2 d3 d4 d5 d6 d7 d8 d9 d10 d11 d12 d13 d14 d15 d16 d17, iter (ev C F c) 4 [2, 3, 4, 6, 7, 8] [6, 7] k st = some (.exit 0, ⟨[(6, .ptr 2 0), (7, .ptr 3 0)], [some (.cells false [.d (.int .u64 a0), .d (.int .u64 a1), .d (.int .u64 a2), .d (.int .u64 a3), .d (.int .u64 a4), .d (.int .u64 a5)]), some (.cells false [.d (.int .u64 m0), .d (.int .u64 m1), .d (.int .u64 m2), .d (.int .u64 m3), .d (.int .u64 m4), .d (.int .u64 m5), .d (.int .u64 m6), .d (.int .u64 m7), .d (.int .u64 m8), .d (.int .u64 m9), .d (.int .u64 m10), .d (.int .u64 m11), .d (.int .u64 m12), .d (.int .u64 m13), .d (.int .u64 m14), .d (.int .u64 m15), .d (.int .u64 m16), .d (.int .u64 m17)]), some (.cells false [.d (.int .u64 0), .d (.int .u64 0), .d (.int .u64 0), .d (.int .u64 0), .d (.int .u64 0), .d (.int .u64 0), .d (.int .u64 0), .d (.int .u64 0), .d (.int .u64 0), .d (.int .u64 0), .d (.int .u64 0), .d (.int .u64 0), .d (.int .u64 0), .d (.int .u64 0), .d (.int .u64 0), .d (.int .u64 0), .d (.int .u64 0), .d (.int .u64 0)]), some (.cells false [.d (.int .u64 d0), .d (.int .u64 d1), .d (.int .u64 d2), .d (.int .u64 d3), .d (.int .u64 d4), .d (.int .u64 d5), .d (.int .u64 d6), .d (.int .u64 d7), .d (.int .u64 d8), .d (.int .u64 d9), .d (.int .u64 d10), .d (.int .u64 d11), .d (.int .u64 d12), .d (.int .u64 d13), .d (.int .u64 d14), .d (.int .u64 d15), .d (.int .u64 d16), .d (.int .u64 d17)])], []⟩) := by
  have htt : C.tt = (envG gEs).tt := by rw [← hC]; rfl
  have hlin : C.lin = [] := by rw [← hC]; rfl
  have hreg : C.reg = reg88 := by rw [← hC]; rfl
  have hcall : C.call = callN (envG gEs) F (m + 1) := by rw [← hC]; rfl
  have hcallP : C.callP = callP (envG gEs) F (m + 1) := by rw [← hC]; rfl
  have hlv_3 : C.live 3 = [2, 3, 4, 6, 7, 8] := by rw [← hC]; rfl
  have hlv_100003 : C.live 100003 = [6, 7] := by rw [← hC]; rfl
  have hlv_200010 : C.live 200010 = [] := by rw [← hC]; rfl
  have hlv_250010 : C.live 250010 = [] := by rw [← hC]; rfl
  have hev : ∀ st, ev C F c st = ev C F ((loopAt 3 Tryd.f88).getD .skip) st := fun st => by rw [hc]; rfl
  intro i
  induction i with
  | zero =>
    intro k o0 o1 o2 o3 o4 o5 o6 o7 o8 o9 o10 o11 o12 o13 o14 o15 o16 o17 st hi hk hst
    obtain ⟨k, rfl⟩ : ∃ j, k = j + 1 := ⟨k - 1, by omega⟩
    refine ⟨o0, o1, o2, o3, o4, o5, o6, o7, o8, o9, o10, o11, o12, o13, o14, o15, o16, o17, ?_⟩
    show iter _ _ _ _ _ _ = _
    rw [iter_eq, hst, hev]
    simp [loopAt, findLoop, Tryd.f88, htt, hlin, hreg, reg88, hcall, hcallP, hlv_3, hlv_100003, hlv_200010, hlv_250010]
  | succ i ih =>
    intro k o0 o1 o2 o3 o4 o5 o6 o7 o8 o9 o10 o11 o12 o13 o14 o15 o16 o17 st hi hk hst
    obtain ⟨k, rfl⟩ : ∃ j, k = j + 1 := ⟨k - 1, by omega⟩
    have z0 : (((i + 1 : Nat) : Int) - 1) = i := by omega
    rw [z0] at hst
    have z4 : (-9223372036854775808 : Int) ≤ i - 1 := by omega
    have z5 : (i : Int) - 1 ≤ 9223372036854775807 := by omega
    have w1 := t_quiet F m 1
    have w2 := t_quiet F m 2
    have w3 := t_quiet F m 3
    obtain ⟨p0, p1, p2, p3, p4, p5, p6, p7, p8, p9, p10, p11, p12, p13, p14, p15, p16, p17, kp⟩ := get18T (tt_pAdd.mono hF (show 30 ≤ m + 1 by omega)) (args := [.d (.agg [.int .u64 o0, .int .u64 o1, .int .u64 o2, .int .u64 o3, .int .u64 o4, .int .u64 o5, .int .u64 o6, .int .u64 o7, .int .u64 o8, .int .u64 o9, .int .u64 o10, .int .u64 o11, .int .u64 o12, .int .u64 o13, .int .u64 o14, .int .u64 o15, .int .u64 o16, .int .u64 o17]), .d (.agg [.int .u64 o0, .int .u64 o1, .int .u64 o2, .int .u64 o3, .int .u64 o4, .int .u64 o5, .int .u64 o6, .int .u64 o7, .int .u64 o8, .int .u64 o9, .int .u64 o10, .int .u64 o11, .int .u64 o12, .int .u64 o13, .int .u64 o14, .int .u64 o15, .int .u64 o16, .int .u64 o17])]) rfl
    obtain ⟨q0, q1, q2, q3, q4, q5, q6, q7, q8, q9, q10, q11, q12, q13, q14, q15, q16, q17, kq⟩ := get18T (tt_pAdd.mono hF (show 30 ≤ m + 1 by omega)) (args := [.d (.agg [.int .u64 p0, .int .u64 p1, .int .u64 p2, .int .u64 p3, .int .u64 p4, .int .u64 p5, .int .u64 p6, .int .u64 p7, .int .u64 p8, .int .u64 p9, .int .u64 p10, .int .u64 p11, .int .u64 p12, .int .u64 p13, .int .u64 p14, .int .u64 p15, .int .u64 p16, .int .u64 p17]), .d (.agg [.int .u64 m0, .int .u64 m1, .int .u64 m2, .int .u64 m3, .int .u64 m4, .int .u64 m5, .int .u64 m6, .int .u64 m7, .int .u64 m8, .int .u64 m9, .int .u64 m10, .int .u64 m11, .int .u64 m12, .int .u64 m13, .int .u64 m14, .int .u64 m15, .int .u64 m16, .int .u64 m17])]) rfl
    obtain ⟨bt, kb⟩ := (tt_Bit.mono hF (show 20 ≤ m + 1 by omega)).get1 (args := [.d (.agg [.int .u64 a0, .int .u64 a1, .int .u64 a2, .int .u64 a3, .int .u64 a4, .int .u64 a5]), .d (.int .i64 (i : Int))]) rfl
    obtain ⟨r0, r1, r2, r3, r4, r5, r6, r7, r8, r9, r10, r11, r12, r13, r14, r15, r16, r17, kr⟩ := get18T (tt_pPick.mono hF (show 20 ≤ m + 1 by omega)) (args := [.d (.int .u64 bt), .d (.agg [.int .u64 p0, .int .u64 p1, .int .u64 p2, .int .u64 p3, .int .u64 p4, .int .u64 p5, .int .u64 p6, .int .u64 p7, .int .u64 p8, .int .u64 p9, .int .u64 p10, .int .u64 p11, .int .u64 p12, .int .u64 p13, .int .u64 p14, .int .u64 p15, .int .u64 p16, .int .u64 p17]), .d (.agg [.int .u64 q0, .int .u64 q1, .int .u64 q2, .int .u64 q3, .int .u64 q4, .int .u64 q5, .int .u64 q6, .int .u64 q7, .int .u64 q8, .int .u64 q9, .int .u64 q10, .int .u64 q11, .int .u64 q12, .int .u64 q13, .int .u64 q14, .int .u64 q15, .int .u64 q16, .int .u64 q17])]) rfl
    have ih' := fun st h => ih k r0 r1 r2 r3 r4 r5 r6 r7 r8 r9 r10 r11 r12 r13 r14 r15 r16 r17 st (by omega) (by omega) h
    clear ih
    rw [iter_eq, hst, hev]
    simp [loopAt, findLoop, Tryd.f88, htt, hlin, hreg, reg88, hcall, hcallP, hlv_3, hlv_100003, hlv_200010, hlv_250010, w1, w2, w3, kp, kb, kq, kr, z4, z5]
    exact ih' _ (by simp)
theorem tt_times : Tot (envG gEs) 400 60 88 [s6, s18, .fn 90] [s18] := by
  intro args ha
  obtain ⟨v0, vs, rfl, h0, ha⟩ := okCons ha
  obtain ⟨v1, vs, rfl, h1, ha⟩ := okCons ha
  obtain ⟨v2, vs, rfl, h2, ha⟩ := okCons ha
  obtain rfl := okNil ha
  obtain ⟨a0, a1, a2, a3, a4, a5, rfl⟩ := ok6 h0
  obtain ⟨m0, m1, m2, m3, m4, m5, m6, m7, m8, m9, m10, m11, m12, m13, m14, m15, m16, m17, rfl⟩ := ok18 h1
  obtain rfl : v2 = .fn 90 [] := (okSh_mk h2).symm
  clear ha h0 h1 h2
  have hs : ∀ F, 400 ≤ F → ∃ x0 x1 x2 x3 x4 x5 x6 x7 x8 x9 x10 x11 x12 x13 x14 x15 x16 x17, callN (envG gEs) F 60 88 [.d (.agg [.int .u64 a0, .int .u64 a1, .int .u64 a2, .int .u64 a3, .int .u64 a4, .int .u64 a5]), .d (.agg [.int .u64 m0, .int .u64 m1, .int .u64 m2, .int .u64 m3, .int .u64 m4, .int .u64 m5, .int .u64 m6, .int .u64 m7, .int .u64 m8, .int .u64 m9, .int .u64 m10, .int .u64 m11, .int .u64 m12, .int .u64 m13, .int .u64 m14, .int .u64 m15, .int .u64 m16, .int .u64 m17]), .fn 90 []] = some ⟨[.d (.agg [.int .u64 x0, .int .u64 x1, .int .u64 x2, .int .u64 x3, .int .u64 x4, .int .u64 x5, .int .u64 x6, .int .u64 x7, .int .u64 x8, .int .u64 x9, .int .u64 x10, .int .u64 x11, .int .u64 x12, .int .u64 x13, .int .u64 x14, .int .u64 x15, .int .u64 x16, .int .u64 x17])], []⟩ := by
    intro F hF
    obtain ⟨o0, o1, o2, o3, o4, o5, o6, o7, o8, o9, o10, o11, o12, o13, o14, o15, o16, o17, ko⟩ := get18T (tt_OfT.mono hF (show 40 ≤ 59 by omega)) (args := [.d (.agg [.int .u64 0, .int .u64 0, .int .u64 0, .int .u64 0, .int .u64 0, .int .u64 0, .int .u64 0, .int .u64 0, .int .u64 0, .int .u64 0, .int .u64 0, .int .u64 0, .bool true])]) rfl
    rw [callN_run (fn := Tryd.f88) rfl rfl rfl (by simp [Tryd.ntmps88])]
    generalize hC : (envG gEs).ctx 88 (callN (envG gEs) F (59)) (callP (envG gEs) F (59)) = C
    have htt : C.tt = (envG gEs).tt := by rw [← hC]; rfl
    have hlin : C.lin = [] := by rw [← hC]; rfl
    have hreg : C.reg = reg88 := by rw [← hC]; rfl
    have hcall : C.call = callN (envG gEs) F (59) := by rw [← hC]; rfl
    have hcallP : C.callP = callP (envG gEs) F (59) := by rw [← hC]; rfl
    have hlv_3 : C.live 3 = [2, 3, 4, 6, 7, 8] := by rw [← hC]; rfl
    have hlv_100003 : C.live 100003 = [6, 7] := by rw [← hC]; rfl
    have hlv_200010 : C.live 200010 = [] := by rw [← hC]; rfl
    have hlv_250010 : C.live 250010 = [] := by rw [← hC]; rfl
    have hS : (⟨[(2, .fn 90 []), (3, .ptr 0 0), (4, .ptr 1 0), (6, .ptr 2 0), (7, .ptr 3 0), (8, .d (.int .i64 383))], [some (.cells false [.d (.int .u64 a0), .d (.int .u64 a1), .d (.int .u64 a2), .d (.int .u64 a3), .d (.int .u64 a4), .d (.int .u64 a5)]), some (.cells false [.d (.int .u64 m0), .d (.int .u64 m1), .d (.int .u64 m2), .d (.int .u64 m3), .d (.int .u64 m4), .d (.int .u64 m5), .d (.int .u64 m6), .d (.int .u64 m7), .d (.int .u64 m8), .d (.int .u64 m9), .d (.int .u64 m10), .d (.int .u64 m11), .d (.int .u64 m12), .d (.int .u64 m13), .d (.int .u64 m14), .d (.int .u64 m15), .d (.int .u64 m16), .d (.int .u64 m17)]), some (.cells false [.d (.int .u64 0), .d (.int .u64 0), .d (.int .u64 0), .d (.int .u64 0), .d (.int .u64 0), .d (.int .u64 0), .d (.int .u64 0), .d (.int .u64 0), .d (.int .u64 0), .d (.int .u64 0), .d (.int .u64 0), .d (.int .u64 0), .d (.int .u64 0), .d (.int .u64 0), .d (.int .u64 0), .d (.int .u64 0), .d (.int .u64 0), .d (.int .u64 0)]), some (.cells false [.d (.int .u64 o0), .d (.int .u64 o1), .d (.int .u64 o2), .d (.int .u64 o3), .d (.int .u64 o4), .d (.int .u64 o5), .d (.int .u64 o6), .d (.int .u64 o7), .d (.int .u64 o8), .d (.int .u64 o9), .d (.int .u64 o10), .d (.int .u64 o11), .d (.int .u64 o12), .d (.int .u64 o13), .d (.int .u64 o14), .d (.int .u64 o15), .d (.int .u64 o16), .d (.int .u64 o17)])], []⟩ : St).trim 4 [2, 3, 4, 6, 7, 8] = ⟨[(2, .fn 90 []), (3, .ptr 0 0), (4, .ptr 1 0), (6, .ptr 2 0), (7, .ptr 3 0), (8, .d (.int .i64 383))], [some (.cells false [.d (.int .u64 a0), .d (.int .u64 a1), .d (.int .u64 a2), .d (.int .u64 a3), .d (.int .u64 a4), .d (.int .u64 a5)]), some (.cells false [.d (.int .u64 m0), .d (.int .u64 m1), .d (.int .u64 m2), .d (.int .u64 m3), .d (.int .u64 m4), .d (.int .u64 m5), .d (.int .u64 m6), .d (.int .u64 m7), .d (.int .u64 m8), .d (.int .u64 m9), .d (.int .u64 m10), .d (.int .u64 m11), .d (.int .u64 m12), .d (.int .u64 m13), .d (.int .u64 m14), .d (.int .u64 m15), .d (.int .u64 m16), .d (.int .u64 m17)]), some (.cells false [.d (.int .u64 0), .d (.int .u64 0), .d (.int .u64 0), .d (.int .u64 0), .d (.int .u64 0), .d (.int .u64 0), .d (.int .u64 0), .d (.int .u64 0), .d (.int .u64 0), .d (.int .u64 0), .d (.int .u64 0), .d (.int .u64 0), .d (.int .u64 0), .d (.int .u64 0), .d (.int .u64 0), .d (.int .u64 0), .d (.int .u64 0), .d (.int .u64 0)]), some (.cells false [.d (.int .u64 o0), .d (.int .u64 o1), .d (.int .u64 o2), .d (.int .u64 o3), .d (.int .u64 o4), .d (.int .u64 o5), .d (.int .u64 o6), .d (.int .u64 o7), .d (.int .u64 o8), .d (.int .u64 o9), .d (.int .u64 o10), .d (.int .u64 o11), .d (.int .u64 o12), .d (.int .u64 o13), .d (.int .u64 o14), .d (.int .u64 o15), .d (.int .u64 o16), .d (.int .u64 o17)])], []⟩ := by simp
    obtain ⟨d0, d1, d2, d3, d4, d5, d6, d7, d8, d9, d10, d11, d12, d13, d14, d15, d16, d17, hd⟩ := loop_times (m := 58) hC rfl hF (by omega) a0 a1 a2 a3 a4 a5 m0 m1 m2 m3 m4 m5 m6 m7 m8 m9 m10 m11 m12 m13 m14 m15 m16 m17 384 F o0 o1 o2 o3 o4 o5 o6 o7 o8 o9 o10 o11 o12 o13 o14 o15 o16 o17 _ (by omega) (by omega) hS
    have hL := fun s h => (iter_trim (s := s) (by omega) (Eq.trans h hS.symm)).trans hd
    clear hd hS hC
    refine ⟨d0, d1, d2, d3, d4, d5, d6, d7, d8, d9, d10, d11, d12, d13, d14, d15, d16, d17, ?_⟩
    simp [htt, hlin, hreg, reg88, hcall, hcallP, hlv_3, hlv_100003, hlv_200010, hlv_250010, ko, ev_loop]
    rw [hL _ (by simp)]
    simp [htt, hlin, hreg, reg88, hcall, hcallP, hlv_3, hlv_100003, hlv_200010, hlv_250010]
  obtain ⟨x0, x1, x2, x3, x4, x5, x6, x7, x8, x9, x10, x11, x12, x13, x14, x15, x16, x17, hd⟩ := hs 400 (Nat.le_refl _)
  rw [hd]
  rfl
def tabD : List Entry := [⟨88, [s6, s18, .fn 90], [s18]⟩, ⟨89, [sPtF], [s18]⟩, ⟨75, [], [sPtF]⟩, ⟨91, [s18], [sPt]⟩]
theorem tabD_ok : ∀ e ∈ tabD, Tot (envG gEs) 400 60 e.f e.as e.rs := by
  intro e he
  simp only [tabD, List.mem_cons, List.not_mem_nil, or_false] at he
  rcases he with rfl | rfl | rfl | rfl
  · exact tt_times
  · exact tt_Of.mono (Nat.le_refl _) (by omega)
  · exact tt_G.mono (Nat.le_refl _) (by omega)
  · exact tt_To.mono (Nat.le_refl _) (by omega)
theorem tt_Base : Tot (envG gEs) 400 70 51 [s6] [sPt] := tot_of (n := 10) tabD_ok (fun x b => by kernel_rfl)
theorem getPtT {E : Env} {fuel n : Nat} {f : FuncId} {ss : List Sh} (h : Tot E fuel n f ss [sPt]) {args : List V} (ha : okAll ss args = true) :
    ∃ x0 x1 x2 x3 x4 x5 y0 y1 y2 y3 y4 y5 b, callN E fuel n f args = some ⟨[.d (.agg [.int .u64 x0, .int .u64 x1, .int .u64 x2, .int .u64 x3, .int .u64 x4, .int .u64 x5, .int .u64 y0, .int .u64 y1, .int .u64 y2, .int .u64 y3, .int .u64 y4, .int .u64 y5, .bool b])], []⟩ := by
  obtain ⟨vs, h1, h2⟩ := h.get ha
  have := okAll_mk [] h2
  rw [h1, ← this]
  exact ⟨_, _, _, _, _, _, _, _, _, _, _, _, _, rfl⟩
end Go.Proofs.YtjmcgdhekjkjfaaDoor
set_option linter.unusedSimpArgs false
set_option linter.unusedVariables false
namespace Go.Proofs.YtjmcgdhekjkjfaaDoor
open Go Go.VM
variable {G : GE}
set_option maxRecDepth 100000
set_option maxHeartbeats 4000000
def rdiv (d : Int) : Nat → Int
  | 0 => d
  | k + 1 => IntKind.u64.wrap ((rdiv d k).tdiv 256)
def rbyte (g : Nat → Int) (j : Nat) : Int := IntKind.u8.wrap (IntKind.u64.wrap ((rdiv (g (j / 4)) (j % 4)).tmod 256))
def pad (L : Nat) (g : Nat → Int) (i : Nat) : Int := match Nat.blt i L with | true => g i | false => 0
theorem run_rBytes_0 (g : Nat → Int) : callN (envG G) 60 3 39 [.d (.nums .u64 false ((List.range 0).map g)), .d (.int .i64 48)] = some ⟨[.d (.nums .u8 false ((List.range 48).map fun j => rbyte (pad 0 g) (47 - j)))], [0]⟩ := by kernel_rfl
theorem run_rBytes_1 (g : Nat → Int) : callN (envG G) 60 3 39 [.d (.nums .u64 false ((List.range 1).map g)), .d (.int .i64 48)] = some ⟨[.d (.nums .u8 false ((List.range 48).map fun j => rbyte (pad 1 g) (47 - j)))], [0]⟩ := by kernel_rfl
theorem run_rBytes_2 (g : Nat → Int) : callN (envG G) 60 3 39 [.d (.nums .u64 false ((List.range 2).map g)), .d (.int .i64 48)] = some ⟨[.d (.nums .u8 false ((List.range 48).map fun j => rbyte (pad 2 g) (47 - j)))], [0]⟩ := by kernel_rfl
theorem run_rBytes_3 (g : Nat → Int) : callN (envG G) 60 3 39 [.d (.nums .u64 false ((List.range 3).map g)), .d (.int .i64 48)] = some ⟨[.d (.nums .u8 false ((List.range 48).map fun j => rbyte (pad 3 g) (47 - j)))], [0]⟩ := by kernel_rfl
theorem run_rBytes_4 (g : Nat → Int) : callN (envG G) 60 3 39 [.d (.nums .u64 false ((List.range 4).map g)), .d (.int .i64 48)] = some ⟨[.d (.nums .u8 false ((List.range 48).map fun j => rbyte (pad 4 g) (47 - j)))], [0]⟩ := by kernel_rfl
theorem run_rBytes_5 (g : Nat → Int) : callN (envG G) 60 3 39 [.d (.nums .u64 false ((List.range 5).map g)), .d (.int .i64 48)] = some ⟨[.d (.nums .u8 false ((List.range 48).map fun j => rbyte (pad 5 g) (47 - j)))], [0]⟩ := by kernel_rfl
theorem run_rBytes_6 (g : Nat → Int) : callN (envG G) 60 3 39 [.d (.nums .u64 false ((List.range 6).map g)), .d (.int .i64 48)] = some ⟨[.d (.nums .u8 false ((List.range 48).map fun j => rbyte (pad 6 g) (47 - j)))], [0]⟩ := by kernel_rfl
theorem run_rBytes_7 (g : Nat → Int) : callN (envG G) 60 3 39 [.d (.nums .u64 false ((List.range 7).map g)), .d (.int .i64 48)] = some ⟨[.d (.nums .u8 false ((List.range 48).map fun j => rbyte (pad 7 g) (47 - j)))], [0]⟩ := by kernel_rfl
theorem run_rBytes_8 (g : Nat → Int) : callN (envG G) 60 3 39 [.d (.nums .u64 false ((List.range 8).map g)), .d (.int .i64 48)] = some ⟨[.d (.nums .u8 false ((List.range 48).map fun j => rbyte (pad 8 g) (47 - j)))], [0]⟩ := by kernel_rfl
theorem run_rBytes_9 (g : Nat → Int) : callN (envG G) 60 3 39 [.d (.nums .u64 false ((List.range 9).map g)), .d (.int .i64 48)] = some ⟨[.d (.nums .u8 false ((List.range 48).map fun j => rbyte (pad 9 g) (47 - j)))], [0]⟩ := by kernel_rfl
theorem run_rBytes_10 (g : Nat → Int) : callN (envG G) 60 3 39 [.d (.nums .u64 false ((List.range 10).map g)), .d (.int .i64 48)] = some ⟨[.d (.nums .u8 false ((List.range 48).map fun j => rbyte (pad 10 g) (47 - j)))], [0]⟩ := by kernel_rfl
theorem run_rBytes_11 (g : Nat → Int) : callN (envG G) 60 3 39 [.d (.nums .u64 false ((List.range 11).map g)), .d (.int .i64 48)] = some ⟨[.d (.nums .u8 false ((List.range 48).map fun j => rbyte (pad 11 g) (47 - j)))], [0]⟩ := by kernel_rfl
theorem run_rBytes_12 (g : Nat → Int) : callN (envG G) 60 3 39 [.d (.nums .u64 false ((List.range 12).map g)), .d (.int .i64 48)] = some ⟨[.d (.nums .u8 false ((List.range 48).map fun j => rbyte (pad 12 g) (47 - j)))], [0]⟩ := by kernel_rfl
theorem run_rBytes (g : Nat → Int) : ∀ L, L ≤ 12 → callN (envG G) 60 3 39 [.d (.nums .u64 false ((List.range L).map g)), .d (.int .i64 48)] = some ⟨[.d (.nums .u8 false ((List.range 48).map fun j => rbyte (pad L g) (47 - j)))], [0]⟩
  | 0, _ => run_rBytes_0 (G := G) g
  | 1, _ => run_rBytes_1 (G := G) g
  | 2, _ => run_rBytes_2 (G := G) g
  | 3, _ => run_rBytes_3 (G := G) g
  | 4, _ => run_rBytes_4 (G := G) g
  | 5, _ => run_rBytes_5 (G := G) g
  | 6, _ => run_rBytes_6 (G := G) g
  | 7, _ => run_rBytes_7 (G := G) g
  | 8, _ => run_rBytes_8 (G := G) g
  | 9, _ => run_rBytes_9 (G := G) g
  | 10, _ => run_rBytes_10 (G := G) g
  | 11, _ => run_rBytes_11 (G := G) g
  | 12, _ => run_rBytes_12 (G := G) g
  | n + 13, h => by omega
def from8 (b : Nat → Int) : Nat → Int
  | 0 => 0
  | r + 1 => orI .u64 (from8 b r) (IntKind.u64.wrap (IntKind.u64.wrap (b r) * 2 ^ (min (8 * r) 64)))
def L6 (g : Nat → Int) : List Int := (List.range 6).map fun k => from8 (fun r => g (47 - (8 * k + r))) 8
theorem run_From (g : Nat → Int) : callN (envG G) 60 3 87 [.d (.nums .u8 false ((List.range 48).map g))] = some ⟨[.d (limbD (L6 g)), .d .nilifc], []⟩ := by kernel_rfl
def to6 (g : Nat → Int) (L k : Nat) : Int := match Nat.blt (2 * k + 1) L with
  | true => IntKind.u64.wrap (g (2 * k) + IntKind.u64.wrap (g (2 * k + 1) * 4294967296))
  | false => match Nat.blt (2 * k) L with
    | true => g (2 * k)
    | false => 0
theorem run_To6_0 (g : Nat → Int) : callN (envG G) 60 3 47 [.d (.nums .u64 false ((List.range 0).map g))] = some ⟨[.d (limbD ((List.range 6).map (to6 g 0)))], []⟩ := by kernel_rfl
theorem run_To6_1 (g : Nat → Int) : callN (envG G) 60 3 47 [.d (.nums .u64 false ((List.range 1).map g))] = some ⟨[.d (limbD ((List.range 6).map (to6 g 1)))], []⟩ := by kernel_rfl
theorem run_To6_2 (g : Nat → Int) : callN (envG G) 60 3 47 [.d (.nums .u64 false ((List.range 2).map g))] = some ⟨[.d (limbD ((List.range 6).map (to6 g 2)))], []⟩ := by kernel_rfl
theorem run_To6_3 (g : Nat → Int) : callN (envG G) 60 3 47 [.d (.nums .u64 false ((List.range 3).map g))] = some ⟨[.d (limbD ((List.range 6).map (to6 g 3)))], []⟩ := by kernel_rfl
theorem run_To6_4 (g : Nat → Int) : callN (envG G) 60 3 47 [.d (.nums .u64 false ((List.range 4).map g))] = some ⟨[.d (limbD ((List.range 6).map (to6 g 4)))], []⟩ := by kernel_rfl
theorem run_To6_5 (g : Nat → Int) : callN (envG G) 60 3 47 [.d (.nums .u64 false ((List.range 5).map g))] = some ⟨[.d (limbD ((List.range 6).map (to6 g 5)))], []⟩ := by kernel_rfl
theorem run_To6_6 (g : Nat → Int) : callN (envG G) 60 3 47 [.d (.nums .u64 false ((List.range 6).map g))] = some ⟨[.d (limbD ((List.range 6).map (to6 g 6)))], []⟩ := by kernel_rfl
theorem run_To6_7 (g : Nat → Int) : callN (envG G) 60 3 47 [.d (.nums .u64 false ((List.range 7).map g))] = some ⟨[.d (limbD ((List.range 6).map (to6 g 7)))], []⟩ := by kernel_rfl
theorem run_To6_8 (g : Nat → Int) : callN (envG G) 60 3 47 [.d (.nums .u64 false ((List.range 8).map g))] = some ⟨[.d (limbD ((List.range 6).map (to6 g 8)))], []⟩ := by kernel_rfl
theorem run_To6_9 (g : Nat → Int) : callN (envG G) 60 3 47 [.d (.nums .u64 false ((List.range 9).map g))] = some ⟨[.d (limbD ((List.range 6).map (to6 g 9)))], []⟩ := by kernel_rfl
theorem run_To6_10 (g : Nat → Int) : callN (envG G) 60 3 47 [.d (.nums .u64 false ((List.range 10).map g))] = some ⟨[.d (limbD ((List.range 6).map (to6 g 10)))], []⟩ := by kernel_rfl
theorem run_To6_11 (g : Nat → Int) : callN (envG G) 60 3 47 [.d (.nums .u64 false ((List.range 11).map g))] = some ⟨[.d (limbD ((List.range 6).map (to6 g 11)))], []⟩ := by kernel_rfl
theorem run_To6_12 (g : Nat → Int) : callN (envG G) 60 3 47 [.d (.nums .u64 false ((List.range 12).map g))] = some ⟨[.d (limbD ((List.range 6).map (to6 g 12)))], []⟩ := by kernel_rfl
theorem run_To6 (g : Nat → Int) : ∀ L, L ≤ 12 → callN (envG G) 60 3 47 [.d (.nums .u64 false ((List.range L).map g))] = some ⟨[.d (limbD ((List.range 6).map (to6 g L)))], []⟩
  | 0, _ => run_To6_0 (G := G) g
  | 1, _ => run_To6_1 (G := G) g
  | 2, _ => run_To6_2 (G := G) g
  | 3, _ => run_To6_3 (G := G) g
  | 4, _ => run_To6_4 (G := G) g
  | 5, _ => run_To6_5 (G := G) g
  | 6, _ => run_To6_6 (G := G) g
  | 7, _ => run_To6_7 (G := G) g
  | 8, _ => run_To6_8 (G := G) g
  | 9, _ => run_To6_9 (G := G) g
  | 10, _ => run_To6_10 (G := G) g
  | 11, _ => run_To6_11 (G := G) g
  | 12, _ => run_To6_12 (G := G) g
  | n + 13, h => by omega
end Go.Proofs.YtjmcgdhekjkjfaaDoor
set_option linter.unusedSimpArgs false
set_option linter.unusedVariables false
namespace Go.Proofs.YtjmcgdhekjkjfaaDoor
open Go Go.VM
variable {G : GE}
set_option maxRecDepth 100000
set_option maxHeartbeats 4000000
theorem t_lScalar (F n : Nat) (hF : 14 ≤ F) (a0 a1 a2 a3 a4 a5 : Int) (ha : In64 [a0, a1, a2, a3, a4, a5]) :
    callN (envG G) F (n+4) 37 [.d (limbD [a0, a1, a2, a3, a4, a5])] = some ⟨[.d (.bool (isScalar [a0, a1, a2, a3, a4, a5]))], []⟩ := by
  have k1 := t_rN (G := G) F (n+2)
  have k2 := t_Of6 (G := G) F n hF a0 a1 a2 a3 a4 a5 ha
  have hl1 := trimL_len (halves [a0, a1, a2, a3, a4, a5])
  have hl2 := cutL_le (halves [a0, a1, a2, a3, a4, a5]) (halves [a0, a1, a2, a3, a4, a5]).length
  have hl3 : (halves [a0, a1, a2, a3, a4, a5]).length = 12 := rfl
  have k3 := t_Cmp (G := G) F (n+2) false false (trimL (halves [a0, a1, a2, a3, a4, a5])) nL (by omega) (by omega)
  have hs := cmp_scalar ha
  have hz := wL_zero ha
  simp only [List.mem_cons, List.not_mem_nil, or_false, forall_eq_or_imp, forall_eq] at hz
  unfold isScalar
  rw [← hs]
  generalize wL [a0, a1, a2, a3, a4, a5] = w at *
  generalize cmpL _ nL = c at *
  generalize trimL _ = r at *
  clear hs hl1 hl2 hl3 ha
  rw [callN_run (fn := Tryd.f37) rfl rfl rfl (by simp [Tryd.ntmps37])]
  generalize hC : (envG G).ctx 37 (callN (envG G) F (n+3)) (callP (envG G) F (n+3)) = C
  have htt : C.tt = (envG G).tt := by rw [← hC]; rfl
  have hlin : C.lin = [] := by rw [← hC]; rfl
  have hreg : C.reg = reg37 := by rw [← hC]; rfl
  have hcall : C.call = callN (envG G) F (n+3) := by rw [← hC]; rfl
  have hcallP : C.callP = callP (envG G) F (n+3) := by rw [← hC]; rfl
  clear hC
  simp only [limbD, List.map] at *
  by_cases hw : w = 0
  · have h0 := hz.1 hw
    obtain ⟨rfl, rfl, rfl, rfl, rfl, rfl⟩ := h0
    simp [htt, hlin, hreg, reg37, hcall, hcallP, bin_ne_agg, (u384_eq (G := G)), notB_some, k1, k2, k3, hw]
  · have h0 : (decide (a0 = 0) && decide (a1 = 0) && decide (a2 = 0) && decide (a3 = 0) && decide (a4 = 0) && decide (a5 = 0)) = false := by
      simp only [Bool.and_eq_false_imp, decide_eq_true_eq, decide_eq_false_iff_not, Bool.and_eq_true]
      intro ⟨⟨⟨⟨h0, h1⟩, h2⟩, h3⟩, h4⟩ h5
      exact hw (hz.2 ⟨h0, h1, h2, h3, h4, h5⟩)
    by_cases hq : c < 0
    · simp [htt, hlin, hreg, reg37, hcall, hcallP, bin_ne_agg, (u384_eq (G := G)), notB_some, k1, k2, k3, hw, hq, h0]
    · simp [htt, hlin, hreg, reg37, hcall, hcallP, bin_ne_agg, (u384_eq (G := G)), notB_some, k1, k2, k3, hw, hq, h0]
end Go.Proofs.YtjmcgdhekjkjfaaDoor
