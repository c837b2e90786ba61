/- Products of the base point's numbers, by the kernel: some. -/
import Derived.Test.YtjmcgdhekjkjfaaDoorSI
import Derived.Test.YtjmcgdhekjkjfaaDoorSH
set_option linter.unusedSimpArgs false
set_option linter.unusedVariables false
namespace Go.Proofs.YtjmcgdhekjkjfaaDoor
open Go Go.VM
set_option maxRecDepth 100000
set_option maxHeartbeats 4000000
theorem pr_x : callN (envG gEs) 400 12 127 [.d (limbD gxL), .d (limbD pTwoL), .d primeD] = some ⟨[.d (limbD gxRL)], []⟩ := by kernel_rfl
theorem pr_xx : callN (envG gEs) 400 12 127 [.d (limbD gxRL), .d (limbD gxL), .d primeD] = some ⟨[.d (limbD gxxL)], []⟩ := by kernel_rfl
end Go.Proofs.YtjmcgdhekjkjfaaDoor
set_option linter.unusedSimpArgs false
set_option linter.unusedVariables false
namespace Go.Proofs.YtjmcgdhekjkjfaaDoor
open Go Go.VM
set_option maxRecDepth 100000
set_option maxHeartbeats 4000000
theorem pr_xx2 : callN (envG gEs) 400 12 127 [.d (limbD gxxL), .d (limbD pTwoL), .d primeD] = some ⟨[.d (limbD gxxRL)], []⟩ := by kernel_rfl
theorem pr_xxx : callN (envG gEs) 400 12 127 [.d (limbD gxxRL), .d (limbD gxL), .d primeD] = some ⟨[.d (limbD gxxxL)], []⟩ := by kernel_rfl
end Go.Proofs.YtjmcgdhekjkjfaaDoor
set_option linter.unusedSimpArgs false
set_option linter.unusedVariables false
namespace Go.Proofs.YtjmcgdhekjkjfaaDoor
open Go Go.VM
set_option maxRecDepth 100000
set_option maxHeartbeats 4000000
theorem pr_t : callN (envG gEs) 400 12 127 [.d (limbD threeL), .d (limbD pTwoL), .d primeD] = some ⟨[.d (limbD threeRL)], []⟩ := by kernel_rfl
theorem pr_tx : callN (envG gEs) 400 12 127 [.d (limbD threeRL), .d (limbD gxL), .d primeD] = some ⟨[.d (limbD gtxL)], []⟩ := by kernel_rfl
end Go.Proofs.YtjmcgdhekjkjfaaDoor
set_option linter.unusedSimpArgs false
set_option linter.unusedVariables false
namespace Go.Proofs.YtjmcgdhekjkjfaaDoor
open Go Go.VM
set_option maxRecDepth 100000
set_option maxHeartbeats 4000000
theorem pr_y : callN (envG gEs) 400 12 127 [.d (limbD gyL), .d (limbD pTwoL), .d primeD] = some ⟨[.d (limbD gyRL)], []⟩ := by kernel_rfl
theorem pr_yy : callN (envG gEs) 400 12 127 [.d (limbD gyRL), .d (limbD gyL), .d primeD] = some ⟨[.d (limbD gyyL)], []⟩ := by kernel_rfl
end Go.Proofs.YtjmcgdhekjkjfaaDoor
set_option linter.unusedSimpArgs false
set_option linter.unusedVariables false
namespace Go.Proofs.YtjmcgdhekjkjfaaDoor
open Go Go.VM
set_option maxRecDepth 100000
set_option maxHeartbeats 4000000
theorem pr_B : callN (envG gEs) 400 12 139 [] = some ⟨[.d (limbD gbL)], []⟩ := by kernel_rfl
end Go.Proofs.YtjmcgdhekjkjfaaDoor
set_option linter.unusedSimpArgs false
set_option linter.unusedVariables false
namespace Go.Proofs.YtjmcgdhekjkjfaaDoor
open Go Go.VM
set_option maxRecDepth 100000
set_option maxHeartbeats 4000000
theorem q_mMul (F n : Nat) (a0 a1 a2 a3 a4 a5 b0 b1 b2 b3 b4 b5 t0 t1 t2 t3 t4 t5 d0 d1 d2 d3 d4 d5 : Int) (h1 : callN (envG gEs) F (n+12) 127 [.d (limbD [a0, a1, a2, a3, a4, a5]), .d (limbD pTwoL), .d primeD] = some ⟨[.d (limbD [t0, t1, t2, t3, t4, t5])], []⟩)
    (h2 : callN (envG gEs) F (n+12) 127 [.d (limbD [t0, t1, t2, t3, t4, t5]), .d (limbD [b0, b1, b2, b3, b4, b5]), .d primeD] = some ⟨[.d (limbD [d0, d1, d2, d3, d4, d5])], []⟩) :
    callN (envG gEs) F (n+13) 93 [.d (limbD [a0, a1, a2, a3, a4, a5]), .d (limbD [b0, b1, b2, b3, b4, b5]), .d primeD] = some ⟨[.d (limbD [d0, d1, d2, d3, d4, d5])], []⟩ := by
  rw [callN_run (fn := Tryd.f93) rfl rfl rfl (by simp [Tryd.ntmps93])]
  generalize hC : (envG gEs).ctx 93 (callN (envG gEs) F (n+12)) (callP (envG gEs) F (n+12)) = C
  have htt : C.tt = (envG gEs).tt := by rw [← hC]; rfl
  have hlin : C.lin = [] := by rw [← hC]; rfl
  have hreg : C.reg = reg93 := by rw [← hC]; rfl
  have hcall : C.call = callN (envG gEs) F (n+12) := by rw [← hC]; rfl
  have hcallP : C.callP = callP (envG gEs) F (n+12) := by rw [← hC]; rfl
  have hlv_200001 : C.live 200001 = [] := by rw [← hC]; rfl
  have hlv_250001 : C.live 250001 = [] := by rw [← hC]; rfl
  clear hC
  simp only [limbD, primeD, primeC, u64s, pTwoL, List.map] at *
  simp [htt, hlin, hreg, reg93, hcall, hcallP, hlv_200001, hlv_250001, h1, h2]
theorem q_fMul (F n : Nat) (a0 a1 a2 a3 a4 a5 b0 b1 b2 b3 b4 b5 t0 t1 t2 t3 t4 t5 d0 d1 d2 d3 d4 d5 : Int) (h1 : callN (envG gEs) F (n+12) 127 [.d (limbD [a0, a1, a2, a3, a4, a5]), .d (limbD pTwoL), .d primeD] = some ⟨[.d (limbD [t0, t1, t2, t3, t4, t5])], []⟩)
    (h2 : callN (envG gEs) F (n+12) 127 [.d (limbD [t0, t1, t2, t3, t4, t5]), .d (limbD [b0, b1, b2, b3, b4, b5]), .d primeD] = some ⟨[.d (limbD [d0, d1, d2, d3, d4, d5])], []⟩) :
    callN (envG gEs) F (n+14) 136 [.d (limbD [a0, a1, a2, a3, a4, a5]), .d (limbD [b0, b1, b2, b3, b4, b5])] = some ⟨[.d (limbD [d0, d1, d2, d3, d4, d5])], []⟩ := by
  have k := q_mMul F n a0 a1 a2 a3 a4 a5 b0 b1 b2 b3 b4 b5 t0 t1 t2 t3 t4 t5 d0 d1 d2 d3 d4 d5 h1 h2
  clear h1 h2
  rw [callN_run (fn := Tryd.f136) rfl rfl rfl (by simp [Tryd.ntmps136])]
  generalize hC : (envG gEs).ctx 136 (callN (envG gEs) F (n+13)) (callP (envG gEs) F (n+13)) = C
  have htt : C.tt = (envG gEs).tt := by rw [← hC]; rfl
  have hlin : C.lin = [] := by rw [← hC]; rfl
  have hreg : C.reg = reg136 := by rw [← hC]; rfl
  have hcall : C.call = callN (envG gEs) F (n+13) := by rw [← hC]; rfl
  have hcallP : C.callP = callP (envG gEs) F (n+13) := by rw [← hC]; rfl
  have hgl : C.glob 7 = some primeC := by rw [← hC]; rfl
  clear hC
  simp only [limbD, primeD, primeC, u64s, List.map] at *
  simp [htt, hlin, hreg, reg136, hcall, hcallP, hgl, ld_gp, k]
theorem q_fP : callN (envG gEs) 400 14 135 [] = some ⟨[.d (limbD [4294967295, 18446744069414584320, 18446744073709551614, 18446744073709551615, 18446744073709551615, 18446744073709551615])], []⟩ := by kernel_rfl
theorem q_less_x : callN (envG gEs) 400 14 114 [.d (limbD gxL), .d (limbD [4294967295, 18446744069414584320, 18446744073709551614, 18446744073709551615, 18446744073709551615, 18446744073709551615])] = some ⟨[.d (.int .u64 1)], []⟩ := by kernel_rfl
theorem q_less_y : callN (envG gEs) 400 14 114 [.d (limbD gyL), .d (limbD [4294967295, 18446744069414584320, 18446744073709551614, 18446744073709551615, 18446744073709551615, 18446744073709551615])] = some ⟨[.d (.int .u64 1)], []⟩ := by kernel_rfl
theorem q_sub : callN (envG gEs) 400 14 138 [.d (limbD gxxxL), .d (limbD gtxL)] = some ⟨[.d (limbD gs1L)], []⟩ := by kernel_rfl
theorem q_add : callN (envG gEs) 400 14 137 [.d (limbD gs1L), .d (limbD gbL)] = some ⟨[.d (limbD gyyL)], []⟩ := by kernel_rfl
theorem q_B : callN (envG gEs) 400 14 139 [] = some ⟨[.d (limbD gbL)], []⟩ := callN_mono (Nat.le_refl _) (show 12 ≤ 14 by omega) pr_B
theorem q_xx (F n : Nat) (hF : 400 ≤ F) : callN (envG gEs) F (n+14) 136 [.d (limbD gxL), .d (limbD gxL)] = some ⟨[.d (limbD gxxL)], []⟩ := q_fMul F n _ _ _ _ _ _ _ _ _ _ _ _ _ _ _ _ _ _ _ _ _ _ _ _ (callN_mono hF (show 12 ≤ n + 12 by omega) pr_x) (callN_mono hF (show 12 ≤ n + 12 by omega) pr_xx)
theorem q_xxx (F n : Nat) (hF : 400 ≤ F) : callN (envG gEs) F (n+14) 136 [.d (limbD gxxL), .d (limbD gxL)] = some ⟨[.d (limbD gxxxL)], []⟩ := q_fMul F n _ _ _ _ _ _ _ _ _ _ _ _ _ _ _ _ _ _ _ _ _ _ _ _ (callN_mono hF (show 12 ≤ n + 12 by omega) pr_xx2) (callN_mono hF (show 12 ≤ n + 12 by omega) pr_xxx)
theorem q_tx (F n : Nat) (hF : 400 ≤ F) : callN (envG gEs) F (n+14) 136 [.d (limbD threeL), .d (limbD gxL)] = some ⟨[.d (limbD gtxL)], []⟩ := q_fMul F n _ _ _ _ _ _ _ _ _ _ _ _ _ _ _ _ _ _ _ _ _ _ _ _ (callN_mono hF (show 12 ≤ n + 12 by omega) pr_t) (callN_mono hF (show 12 ≤ n + 12 by omega) pr_tx)
theorem q_yy (F n : Nat) (hF : 400 ≤ F) : callN (envG gEs) F (n+14) 136 [.d (limbD gyL), .d (limbD gyL)] = some ⟨[.d (limbD gyyL)], []⟩ := q_fMul F n _ _ _ _ _ _ _ _ _ _ _ _ _ _ _ _ _ _ _ _ _ _ _ _ (callN_mono hF (show 12 ≤ n + 12 by omega) pr_y) (callN_mono hF (show 12 ≤ n + 12 by omega) pr_yy)
theorem q_On (F n : Nat) (hF : 400 ≤ F) : callN (envG gEs) F (n+15) 112 [.d (.agg baseC)] = some ⟨[.d (.bool true)], []⟩ := by
  have k1 := callN_mono hF (show 14 ≤ n + 14 by omega) q_fP
  have k2 := callN_mono hF (show 14 ≤ n + 14 by omega) q_less_x
  have k3 := callN_mono hF (show 14 ≤ n + 14 by omega) q_less_y
  have k4 := callN_mono hF (show 14 ≤ n + 14 by omega) q_sub
  have k5 := callN_mono hF (show 14 ≤ n + 14 by omega) q_add
  have k6 := callN_mono hF (show 14 ≤ n + 14 by omega) q_B
  have k7 := q_xx F n hF
  have k8 := q_xxx F n hF
  have k9 := q_tx F n hF
  have k10 := q_yy F n hF
  rw [callN_run (fn := Tryd.f112) rfl rfl rfl (by simp [Tryd.ntmps112])]
  generalize hC : (envG gEs).ctx 112 (callN (envG gEs) F (n+14)) (callP (envG gEs) F (n+14)) = C
  have htt : C.tt = (envG gEs).tt := by rw [← hC]; rfl
  have hlin : C.lin = [] := by rw [← hC]; rfl
  have hreg : C.reg = reg112 := by rw [← hC]; rfl
  have hcall : C.call = callN (envG gEs) F (n+14) := by rw [← hC]; rfl
  have hcallP : C.callP = callP (envG gEs) F (n+14) := by rw [← hC]; rfl
  have hlv_200003 : C.live 200003 = [] := by rw [← hC]; rfl
  have hlv_250003 : C.live 250003 = [] := by rw [← hC]; rfl
  have hlv_200005 : C.live 200005 = [] := by rw [← hC]; rfl
  have hlv_250005 : C.live 250005 = [] := by rw [← hC]; rfl
  have hlv_200006 : C.live 200006 = [] := by rw [← hC]; rfl
  have hlv_250006 : C.live 250006 = [] := by rw [← hC]; rfl
  have hlv_200007 : C.live 200007 = [] := by rw [← hC]; rfl
  have hlv_250007 : C.live 250007 = [] := by rw [← hC]; rfl
  clear hC
  simp only [limbD, baseC, u64s, List.map, List.cons_append, List.nil_append, gxL, gyL, gxxL, gxxxL, gtxL, gyyL, gbL, gs1L, threeL] at *
  simp [htt, hlin, hreg, reg112, hcall, hcallP, hlv_200003, hlv_250003, hlv_200005, hlv_250005, hlv_200006, hlv_250006, hlv_200007, hlv_250007, k1, k2, k3, k4, k5, k6, k7, k8, k9, k10, bin_eq_agg, (u384_eq (G := gEs))]
end Go.Proofs.YtjmcgdhekjkjfaaDoor
