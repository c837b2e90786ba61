/- Products of the base point's numbers, by the kernel: some. -/
import Derived.Test.YtjmcgdhekjkjfaaDoorSJ
import Derived.Test.YtjmcgdhekjkjfaaDoorSH
import Derived.Test.YtjmcgdhekjkjfaaDoorSE
import Derived.Test.YtjmcgdhekjkjfaaDoorVMU
import Derived.Test.YtjmcgdhekjkjfaaDoorSG
set_option linter.unusedSimpArgs false
set_option linter.unusedVariables false
namespace Go.Proofs.YtjmcgdhekjkjfaaDoor
open Go Go.VM
set_option maxRecDepth 100000
set_option maxHeartbeats 4000000

theorem pr_y : callN (envG gEc) 400 12 127 [.d (limbD gyL), .d (limbD pTwoL), .d primeD] = some ⟨[.d (limbD gyRL)], []⟩ := by kernel_rfl
theorem pr_yy : callN (envG gEc) 400 12 127 [.d (limbD gyRL), .d (limbD gyL), .d primeD] = some ⟨[.d (limbD gyyL)], []⟩ := by kernel_rfl
end Go.Proofs.YtjmcgdhekjkjfaaDoor

/- Products of the base point's numbers, by the kernel: B. -/
set_option linter.unusedSimpArgs false
set_option linter.unusedVariables false
namespace Go.Proofs.YtjmcgdhekjkjfaaDoor
open Go Go.VM
set_option maxRecDepth 100000
set_option maxHeartbeats 4000000

theorem pr_B : callN (envG gEc) 400 12 139 [] = some ⟨[.d (limbD gbL)], []⟩ := by kernel_rfl
end Go.Proofs.YtjmcgdhekjkjfaaDoor

/- The base point lies on the curve. -/
set_option linter.unusedSimpArgs false
set_option linter.unusedVariables false
namespace Go.Proofs.YtjmcgdhekjkjfaaDoor
open Go Go.VM
set_option maxRecDepth 100000
set_option maxHeartbeats 4000000

theorem q_mMul (F n : Nat) (a0 a1 a2 a3 a4 a5 b0 b1 b2 b3 b4 b5 t0 t1 t2 t3 t4 t5 d0 d1 d2 d3 d4 d5 : Int) (h1 : callN (envG gEc) F (n+12) 127 [.d (limbD [a0, a1, a2, a3, a4, a5]), .d (limbD pTwoL), .d primeD] = some ⟨[.d (limbD [t0, t1, t2, t3, t4, t5])], []⟩)
    (h2 : callN (envG gEc) F (n+12) 127 [.d (limbD [t0, t1, t2, t3, t4, t5]), .d (limbD [b0, b1, b2, b3, b4, b5]), .d primeD] = some ⟨[.d (limbD [d0, d1, d2, d3, d4, d5])], []⟩) :
    callN (envG gEc) F (n+13) 93 [.d (limbD [a0, a1, a2, a3, a4, a5]), .d (limbD [b0, b1, b2, b3, b4, b5]), .d primeD] = some ⟨[.d (limbD [d0, d1, d2, d3, d4, d5])], []⟩ := by
  rw [callN_run (fn := Tryd.f93) rfl rfl rfl (by simp [Tryd.ntmps93])]
  generalize hC : (envG gEc).ctx 93 (callN (envG gEc) F (n+12)) (callP (envG gEc) F (n+12)) = C
  have htt : C.tt = (envG gEc).tt := by rw [← hC]; rfl
  have hlin : C.lin = [] := by rw [← hC]; rfl
  have hreg : C.reg = reg93 := by rw [← hC]; rfl
  have hcall : C.call = callN (envG gEc) F (n+12) := by rw [← hC]; rfl
  have hcallP : C.callP = callP (envG gEc) F (n+12) := by rw [← hC]; rfl
  have hlv_200001 : C.live 200001 = [] := by rw [← hC]; rfl
  have hlv_250001 : C.live 250001 = [] := by rw [← hC]; rfl
  clear hC
  simp only [limbD, primeD, primeC, u64s, pTwoL, List.map] at *
  simp [htt, hlin, hreg, reg93, hcall, hcallP, hlv_200001, hlv_250001, h1, h2]
theorem q_fMul (F n : Nat) (a0 a1 a2 a3 a4 a5 b0 b1 b2 b3 b4 b5 t0 t1 t2 t3 t4 t5 d0 d1 d2 d3 d4 d5 : Int) (h1 : callN (envG gEc) F (n+12) 127 [.d (limbD [a0, a1, a2, a3, a4, a5]), .d (limbD pTwoL), .d primeD] = some ⟨[.d (limbD [t0, t1, t2, t3, t4, t5])], []⟩)
    (h2 : callN (envG gEc) F (n+12) 127 [.d (limbD [t0, t1, t2, t3, t4, t5]), .d (limbD [b0, b1, b2, b3, b4, b5]), .d primeD] = some ⟨[.d (limbD [d0, d1, d2, d3, d4, d5])], []⟩) :
    callN (envG gEc) F (n+14) 136 [.d (limbD [a0, a1, a2, a3, a4, a5]), .d (limbD [b0, b1, b2, b3, b4, b5])] = some ⟨[.d (limbD [d0, d1, d2, d3, d4, d5])], []⟩ := by
  have k := q_mMul F n a0 a1 a2 a3 a4 a5 b0 b1 b2 b3 b4 b5 t0 t1 t2 t3 t4 t5 d0 d1 d2 d3 d4 d5 h1 h2
  clear h1 h2
  rw [callN_run (fn := Tryd.f136) rfl rfl rfl (by simp [Tryd.ntmps136])]
  generalize hC : (envG gEc).ctx 136 (callN (envG gEc) F (n+13)) (callP (envG gEc) F (n+13)) = C
  have htt : C.tt = (envG gEc).tt := by rw [← hC]; rfl
  have hlin : C.lin = [] := by rw [← hC]; rfl
  have hreg : C.reg = reg136 := by rw [← hC]; rfl
  have hcall : C.call = callN (envG gEc) F (n+13) := by rw [← hC]; rfl
  have hcallP : C.callP = callP (envG gEc) F (n+13) := by rw [← hC]; rfl
  have hgl : C.glob 7 = some primeC := by rw [← hC]; rfl
  clear hC
  simp only [limbD, primeD, primeC, u64s, List.map] at *
  simp [htt, hlin, hreg, reg136, hcall, hcallP, hgl, ld_gp, k]
theorem q_fP : callN (envG gEc) 400 14 135 [] = some ⟨[.d (limbD [4294967295, 18446744069414584320, 18446744073709551614, 18446744073709551615, 18446744073709551615, 18446744073709551615])], []⟩ := by kernel_rfl
theorem q_less_x : callN (envG gEc) 400 14 114 [.d (limbD gxL), .d (limbD [4294967295, 18446744069414584320, 18446744073709551614, 18446744073709551615, 18446744073709551615, 18446744073709551615])] = some ⟨[.d (.int .u64 1)], []⟩ := by kernel_rfl
theorem q_less_y : callN (envG gEc) 400 14 114 [.d (limbD gyL), .d (limbD [4294967295, 18446744069414584320, 18446744073709551614, 18446744073709551615, 18446744073709551615, 18446744073709551615])] = some ⟨[.d (.int .u64 1)], []⟩ := by kernel_rfl
theorem q_sub : callN (envG gEc) 400 14 138 [.d (limbD gxxxL), .d (limbD gtxL)] = some ⟨[.d (limbD gs1L)], []⟩ := by kernel_rfl
theorem q_add : callN (envG gEc) 400 14 137 [.d (limbD gs1L), .d (limbD gbL)] = some ⟨[.d (limbD gyyL)], []⟩ := by kernel_rfl
theorem q_B : callN (envG gEc) 400 14 139 [] = some ⟨[.d (limbD gbL)], []⟩ := callN_mono (Nat.le_refl _) (show 12 ≤ 14 by omega) pr_B
theorem q_xx (F n : Nat) (hF : 400 ≤ F) : callN (envG gEc) F (n+14) 136 [.d (limbD gxL), .d (limbD gxL)] = some ⟨[.d (limbD gxxL)], []⟩ := q_fMul F n _ _ _ _ _ _ _ _ _ _ _ _ _ _ _ _ _ _ _ _ _ _ _ _ (callN_mono hF (show 12 ≤ n + 12 by omega) pr_x) (callN_mono hF (show 12 ≤ n + 12 by omega) pr_xx)
theorem q_xxx (F n : Nat) (hF : 400 ≤ F) : callN (envG gEc) F (n+14) 136 [.d (limbD gxxL), .d (limbD gxL)] = some ⟨[.d (limbD gxxxL)], []⟩ := q_fMul F n _ _ _ _ _ _ _ _ _ _ _ _ _ _ _ _ _ _ _ _ _ _ _ _ (callN_mono hF (show 12 ≤ n + 12 by omega) pr_xx2) (callN_mono hF (show 12 ≤ n + 12 by omega) pr_xxx)
theorem q_tx (F n : Nat) (hF : 400 ≤ F) : callN (envG gEc) F (n+14) 136 [.d (limbD threeL), .d (limbD gxL)] = some ⟨[.d (limbD gtxL)], []⟩ := q_fMul F n _ _ _ _ _ _ _ _ _ _ _ _ _ _ _ _ _ _ _ _ _ _ _ _ (callN_mono hF (show 12 ≤ n + 12 by omega) pr_t) (callN_mono hF (show 12 ≤ n + 12 by omega) pr_tx)
theorem q_yy (F n : Nat) (hF : 400 ≤ F) : callN (envG gEc) F (n+14) 136 [.d (limbD gyL), .d (limbD gyL)] = some ⟨[.d (limbD gyyL)], []⟩ := q_fMul F n _ _ _ _ _ _ _ _ _ _ _ _ _ _ _ _ _ _ _ _ _ _ _ _ (callN_mono hF (show 12 ≤ n + 12 by omega) pr_y) (callN_mono hF (show 12 ≤ n + 12 by omega) pr_yy)
theorem q_On (F n : Nat) (hF : 400 ≤ F) : callN (envG gEc) F (n+15) 112 [.d (.agg baseC)] = some ⟨[.d (.bool true)], []⟩ := by
  have k1 := callN_mono hF (show 14 ≤ n + 14 by omega) q_fP
  have k2 := callN_mono hF (show 14 ≤ n + 14 by omega) q_less_x
  have k3 := callN_mono hF (show 14 ≤ n + 14 by omega) q_less_y
  have k4 := callN_mono hF (show 14 ≤ n + 14 by omega) q_sub
  have k5 := callN_mono hF (show 14 ≤ n + 14 by omega) q_add
  have k6 := callN_mono hF (show 14 ≤ n + 14 by omega) q_B
  have k7 := q_xx F n hF
  have k8 := q_xxx F n hF
  have k9 := q_tx F n hF
  have k10 := q_yy F n hF
  rw [callN_run (fn := Tryd.f112) rfl rfl rfl (by simp [Tryd.ntmps112])]
  generalize hC : (envG gEc).ctx 112 (callN (envG gEc) F (n+14)) (callP (envG gEc) F (n+14)) = C
  have htt : C.tt = (envG gEc).tt := by rw [← hC]; rfl
  have hlin : C.lin = [] := by rw [← hC]; rfl
  have hreg : C.reg = reg112 := by rw [← hC]; rfl
  have hcall : C.call = callN (envG gEc) F (n+14) := by rw [← hC]; rfl
  have hcallP : C.callP = callP (envG gEc) F (n+14) := by rw [← hC]; rfl
  have hlv_200003 : C.live 200003 = [] := by rw [← hC]; rfl
  have hlv_250003 : C.live 250003 = [] := by rw [← hC]; rfl
  have hlv_200005 : C.live 200005 = [] := by rw [← hC]; rfl
  have hlv_250005 : C.live 250005 = [] := by rw [← hC]; rfl
  have hlv_200006 : C.live 200006 = [] := by rw [← hC]; rfl
  have hlv_250006 : C.live 250006 = [] := by rw [← hC]; rfl
  have hlv_200007 : C.live 200007 = [] := by rw [← hC]; rfl
  have hlv_250007 : C.live 250007 = [] := by rw [← hC]; rfl
  clear hC
  simp only [limbD, baseC, u64s, List.map, List.cons_append, List.nil_append, gxL, gyL, gxxL, gxxxL, gtxL, gyyL, gbL, gs1L, threeL] at *
  simp [htt, hlin, hreg, reg112, hcall, hcallP, hlv_200003, hlv_250003, hlv_200005, hlv_250005, hlv_200006, hlv_250006, hlv_200007, hlv_250007, k1, k2, k3, k4, k5, k6, k7, k8, k9, k10, bin_eq_agg, (u384_eq (G := gEc))]
end Go.Proofs.YtjmcgdhekjkjfaaDoor

/- The head of layer 14's statements. -/
set_option linter.unusedSimpArgs false
set_option linter.unusedVariables false
namespace Go.Proofs.YtjmcgdhekjkjfaaDoor
open Go Go.VM
set_option maxRecDepth 100000
set_option maxHeartbeats 4000000

def z48 : List Int := List.replicate 48 0
theorem q_dig : callN (envG gEc) 400 15 49 [.d (.nums .u8 false z48)] = some ⟨[.d (limbD [0, 0, 0, 0, 0, 0]), .d .nilifc], []⟩ := by kernel_rfl
theorem q_sc : callN (envG gEc) 400 15 76 [.d (limbD [0, 0, 0, 0, 0, 0])] = some ⟨[.d (.bool false)], []⟩ := by kernel_rfl
theorem q_G : callN (envG gEc) 400 15 75 [] = some ⟨[.d (.agg baseC)], []⟩ := by kernel_rfl
theorem q_sign : callN (envG gEc) 400 16 48 [.d (limbD [0, 0, 0, 0, 0, 0]), .d (limbD [1, 0, 0, 0, 0, 0]), .d (.nums .u8 false z48)] = some ⟨[.d (.agg (u64s [0, 0, 0, 0, 0, 0, 0, 0, 0, 0, 0, 0])), .d (err 3)], []⟩ := by kernel_rfl
theorem q_verify (F n : Nat) (hF : 400 ≤ F) : callN (envG gEc) F (n+16) 74 [.d (.agg baseC), .d (.nums .u8 false z48), .d (.agg (u64s [0, 0, 0, 0, 0, 0, 0, 0, 0, 0, 0, 0]))] = some ⟨[.d (err 3)], []⟩ := by
  have k1 := q_On F n hF
  have k2 := callN_mono hF (show 15 ≤ n + 15 by omega) q_dig
  have k3 := callN_mono hF (show 15 ≤ n + 15 by omega) q_sc
  generalize z48 = zs at *
  rw [callN_run (fn := Tryd.f74) rfl rfl rfl (by simp [Tryd.ntmps74])]
  generalize hC : (envG gEc).ctx 74 (callN (envG gEc) F (n+15)) (callP (envG gEc) F (n+15)) = C
  have htt : C.tt = (envG gEc).tt := by rw [← hC]; rfl
  have hlin : C.lin = [] := by rw [← hC]; rfl
  have hreg : C.reg = reg74 := by rw [← hC]; rfl
  have hcall : C.call = callN (envG gEc) F (n+15) := by rw [← hC]; rfl
  have hcallP : C.callP = callP (envG gEc) F (n+15) := by rw [← hC]; rfl
  have hlv_200009 : C.live 200009 = [] := by rw [← hC]; rfl
  have hlv_250009 : C.live 250009 = [] := by rw [← hC]; rfl
  have hlv_200010 : C.live 200010 = [] := by rw [← hC]; rfl
  have hlv_250010 : C.live 250010 = [] := by rw [← hC]; rfl
  clear hC
  unfold err
  simp only [limbD, baseC, u64s, List.map, List.cons_append, List.nil_append] at *
  simp [htt, hlin, hreg, reg74, hcall, hcallP, hlv_200009, hlv_250009, hlv_200010, hlv_250010, k1, k2, k3]
theorem up14 (F n : Nat) (hF : 400 ≤ F) : callN (envG gEc) F (n+17) 35 [] = some ⟨[.d (.bool true)], []⟩ := by
  have k1 := q_verify F n hF
  have k2 := callN_mono hF (show 16 ≤ n + 16 by omega) q_sign
  have k3 := callN_mono hF (show 15 ≤ n + 16 by omega) q_G
  rw [callN_run (fn := Tryd.f35) rfl rfl rfl (by simp [Tryd.ntmps35])]
  generalize hC : (envG gEc).ctx 35 (callN (envG gEc) F (n+16)) (callP (envG gEc) F (n+16)) = C
  have htt : C.tt = (envG gEc).tt := by rw [← hC]; rfl
  have hlin : C.lin = [] := by rw [← hC]; rfl
  have hreg : C.reg = reg35 := by rw [← hC]; rfl
  have hcall : C.call = callN (envG gEc) F (n+16) := by rw [← hC]; rfl
  have hcallP : C.callP = callP (envG gEc) F (n+16) := by rw [← hC]; rfl
  have hlv_200001 : C.live 200001 = [] := by rw [← hC]; rfl
  have hlv_250001 : C.live 250001 = [] := by rw [← hC]; rfl
  clear hC
  unfold err at *
  simp only [limbD, baseC, u64s, List.map, List.cons_append, List.nil_append] at *
  have hz : z48 = [0, 0, 0, 0, 0, 0, 0, 0, 0, 0, 0, 0, 0, 0, 0, 0, 0, 0, 0, 0, 0, 0, 0, 0, 0, 0, 0, 0, 0, 0, 0, 0, 0, 0, 0, 0, 0, 0, 0, 0, 0, 0, 0, 0, 0, 0, 0, 0] := rfl
  rw [hz] at k1 k2
  simp [htt, hlin, hreg, reg35, hcall, hcallP, hlv_200001, hlv_250001, k1, k2, k3]
end Go.Proofs.YtjmcgdhekjkjfaaDoor

/- Signatures held against each other. -/
set_option linter.unusedSimpArgs false
set_option linter.unusedVariables false
namespace Go.Proofs.YtjmcgdhekjkjfaaDoor
open Go Go.VM
variable {G : GE}
set_option maxRecDepth 100000
set_option maxHeartbeats 8000000

theorem chain6 (a0 a1 a2 a3 a4 a5 c0 c1 c2 c3 c4 c5 : Int) : (bif a0 == c0 then (bif a1 == c1 then (bif a2 == c2 then (bif a3 == c3 then (bif a4 == c4 then (bif a5 == c5 then some true else some false) else some false) else some false) else some false) else some false) else some false) = some (decide (a0 = c0) && decide (a1 = c1) && decide (a2 = c2) && decide (a3 = c3) && decide (a4 = c4) && decide (a5 = c5)) := by
  have e : ∀ x y : Int, (x == y) = decide (x = y) := fun x y => by by_cases h : x = y <;> simp [h]
  simp only [e]
  cases decide (a0 = c0) <;> cases decide (a1 = c1) <;> cases decide (a2 = c2) <;> cases decide (a3 = c3) <;> cases decide (a4 = c4) <;> cases decide (a5 = c5) <;> rfl
theorem sig_eq {C : Ctx} (htt : C.tt = (envG G).tt) (ox oy : Operand) (a0 a1 a2 a3 a4 a5 b0 b1 b2 b3 b4 b5 c0 c1 c2 c3 c4 c5 d0 d1 d2 d3 d4 d5 : Int) :
    eqK C 66 (.struct [(0, 64), (6, 64)]) true ox oy (.d (.agg [.int .u64 a0, .int .u64 a1, .int .u64 a2, .int .u64 a3, .int .u64 a4, .int .u64 a5, .int .u64 b0, .int .u64 b1, .int .u64 b2, .int .u64 b3, .int .u64 b4, .int .u64 b5])) (.d (.agg [.int .u64 c0, .int .u64 c1, .int .u64 c2, .int .u64 c3, .int .u64 c4, .int .u64 c5, .int .u64 d0, .int .u64 d1, .int .u64 d2, .int .u64 d3, .int .u64 d4, .int .u64 d5])) = some ((decide (a0 = c0) && decide (a1 = c1) && decide (a2 = c2) && decide (a3 = c3) && decide (a4 = c4) && decide (a5 = c5)) && (decide (b0 = d0) && decide (b1 = d1) && decide (b2 = d2) && decide (b3 = d3) && decide (b4 = d4) && decide (b5 = d5))) := by
  have h : eqK C 66 (.struct [(0, 64), (6, 64)]) true ox oy (.d (.agg [.int .u64 a0, .int .u64 a1, .int .u64 a2, .int .u64 a3, .int .u64 a4, .int .u64 a5, .int .u64 b0, .int .u64 b1, .int .u64 b2, .int .u64 b3, .int .u64 b4, .int .u64 b5])) (.d (.agg [.int .u64 c0, .int .u64 c1, .int .u64 c2, .int .u64 c3, .int .u64 c4, .int .u64 c5, .int .u64 d0, .int .u64 d1, .int .u64 d2, .int .u64 d3, .int .u64 d4, .int .u64 d5])) =
      (match (bif a0 == c0 then (bif a1 == c1 then (bif a2 == c2 then (bif a3 == c3 then (bif a4 == c4 then (bif a5 == c5 then some true else some false) else some false) else some false) else some false) else some false) else some false) with
        | some x => bif x then (match (bif b0 == d0 then (bif b1 == d1 then (bif b2 == d2 then (bif b3 == d3 then (bif b4 == d4 then (bif b5 == d5 then some true else some false) else some false) else some false) else some false) else some false) else some false) with
          | some y => bif y then some true else some false
          | none => none) else some false
        | none => none) := by
    cases C
    cases htt
    kernel_rfl
  rw [h, chain6, chain6]
  generalize (decide (a0 = c0) && decide (a1 = c1) && decide (a2 = c2) && decide (a3 = c3) && decide (a4 = c4) && decide (a5 = c5)) = x
  generalize (decide (b0 = d0) && decide (b1 = d1) && decide (b2 = d2) && decide (b3 = d3) && decide (b4 = d4) && decide (b5 = d5)) = y
  cases x <;> cases y <;> rfl
end Go.Proofs.YtjmcgdhekjkjfaaDoor

/- What the reference's Reader.fail and Reader.length hand back. -/
set_option linter.unusedSimpArgs false
set_option linter.unusedVariables false
namespace Go.Proofs.YtjmcgdhekjkjfaaDoor
open Go Go.VM
variable {G : GE}
set_option maxRecDepth 100000
set_option maxHeartbeats 4000000

def rdr (nl : Bool) (b : List Int) (x y : Int) : Option Blk := some (.cells false [.d (.nums .u8 nl b), .d (.int .i64 x), .d (.int .i64 y)])

theorem t_rfail (F n : Nat) (nl : Bool) (b : List Int) (x y c p : Int) :
    callP (envG G) F (n+1) 97 [.ptr 0 0, .d (.int .i64 c), .d (.int .i64 p)] [rdr nl b x y] [] = some ⟨[], [], [rdr nl b c p], []⟩ := by
  unfold rdr
  rw [callP_run (fn := Tryd.f97) rfl rfl rfl (by simp [Tryd.ntmps97])]
  generalize hC : (envG G).ctx 97 (callN (envG G) F (n)) (callP (envG G) F (n)) = C
  have htt : C.tt = (envG G).tt := by rw [← hC]; rfl
  have hlin : C.lin = [] := by rw [← hC]; rfl
  have hreg : C.reg = reg97 := by rw [← hC]; rfl
  have hcall : C.call = callN (envG G) F (n) := by rw [← hC]; rfl
  have hcallP : C.callP = callP (envG G) F (n) := by rw [← hC]; rfl
  simp [htt, hlin, hreg, reg97, hcall, hcallP]

theorem loop_rlen {m : Nat} {C : Ctx} {F : Nat} (hC : (envG G).ctx 98 (callN (envG G) F (m)) (callP (envG G) F (m)) = C) {c : Code} (hc : loopAt 16 Tryd.f98 = some c) (b : List Int) (i q : Nat) (hb : ∀ c ∈ b, 0 ≤ c ∧ c < 256) (hq : q ≤ 3) (hi : i ≤ 1048577) (hin : i + 1 + q ≤ b.length) (nl : Bool) (x y : Int) :
    ∀ (u j k : Nat) (st : St), j + u = q → u < k →
      st.trim 1 [0, 1, 9, 10, 11] = ⟨[(0, .ptr 0 0), (1, .d (.int .i64 i)), (9, .d (.int .i64 q)), (10, .d (.int .i64 (beN b (i + 1) j))), (11, .d (.int .i64 ((j : Int) + 1)))], [rdr nl b x y], []⟩ →
      iter (ev C F c) 1 [0, 1, 9, 10, 11] [0, 1, 6, 7, 9, 10] k st = some (.exit 0, ⟨[(0, .ptr 0 0), (1, .d (.int .i64 i)), (9, .d (.int .i64 q)), (10, .d (.int .i64 (beN b (i + 1) q)))], [rdr nl b x y], []⟩) := by
  have htt : C.tt = (envG G).tt := by rw [← hC]; rfl
  have hlin : C.lin = [] := by rw [← hC]; rfl
  have hreg : C.reg = reg98 := by rw [← hC]; rfl
  have hcall : C.call = callN (envG G) F (m) := by rw [← hC]; rfl
  have hcallP : C.callP = callP (envG G) F (m) := by rw [← hC]; rfl
  have hlv_16 : C.live 16 = [0, 1, 9, 10, 11] := by rw [← hC]; rfl
  have hlv_100016 : C.live 100016 = [0, 1, 6, 7, 9, 10] := by rw [← hC]; rfl
  have hev : ∀ st, ev C F c st = ev C F ((loopAt 16 Tryd.f98).getD .skip) st := fun st => by rw [hc]; rfl
  unfold rdr
  intro u
  induction u with
  | zero =>
    intro j k st hj hk hst
    obtain ⟨k, rfl⟩ : ∃ j, k = j + 1 := ⟨k - 1, by omega⟩
    have e0 : ¬ ((j : Int) + 1 ≤ (q : Int)) := by omega
    have e0' : ((q : Int) < (j : Int) + 1) := by omega
    have hjq : j = q := by omega
    subst hjq
    rw [iter_eq, hst, hev]
    simp [loopAt, findLoop, Tryd.f98, htt, hlin, hreg, reg98, hcall, hcallP, hlv_16, hlv_100016, e0, e0']
  | succ u ih =>
    intro j k st hj hk hst
    obtain ⟨k, rfl⟩ : ∃ j, k = j + 1 := ⟨k - 1, by omega⟩
    have e0 : ((j : Int) + 1 ≤ (q : Int)) := by omega
    have e0' : ¬ ((q : Int) < (j : Int) + 1) := by omega
    have ra := byteAt_get (b := b) (i := i + 1 + j) (by omega)
    have h1 := beN_ok hb (i + 1) j
    have h2 := byteAt_ok hb (i + 1 + j)
    have hp : (256 : Int) ^ j ≤ 65536 := by
      have : j = 0 ∨ j = 1 ∨ j = 2 := by omega
      rcases this with rfl | rfl | rfl <;> decide
    have ih' := fun st h => ih (j + 1) k st (by omega) (by omega) h
    simp only [beN] at ih'
    have e1 : (j : Int) + 1 + 1 ≤ 9223372036854775807 := by omega
    have e2 : (-9223372036854775808 : Int) ≤ (j : Int) + 1 + 1 := by omega
    have e3 : 256 * beN b (i + 1) j ≤ 9223372036854775807 := by omega
    have e4 : (-9223372036854775808 : Int) ≤ 256 * beN b (i + 1) j := by omega
    have e5 : byteAt b (i + 1 + j) ≤ 9223372036854775807 := by omega
    have e6 : (-9223372036854775808 : Int) ≤ byteAt b (i + 1 + j) := by omega
    have e7 : 256 * beN b (i + 1) j + byteAt b (i + 1 + j) ≤ 9223372036854775807 := by omega
    have e8 : (-9223372036854775808 : Int) ≤ 256 * beN b (i + 1) j + byteAt b (i + 1 + j) := by omega
    have e9 : (i : Int) + ((j : Int) + 1) ≤ 9223372036854775807 := by omega
    have e10 : (-9223372036854775808 : Int) ≤ (i : Int) + ((j : Int) + 1) := by omega
    have e11 : (0 : Int) ≤ (i : Int) + ((j : Int) + 1) := by omega
    have n1 : ((i : Int) + ((j : Int) + 1)).toNat = i + 1 + j := by omega
    rw [iter_eq, hst, hev]
    generalize beN b (i + 1) j = v at *
    generalize byteAt b (i + 1 + j) = x at *
    simp [loopAt, findLoop, Tryd.f98, htt, hlin, hreg, reg98, hcall, hcallP, hlv_16, hlv_100016, e0, e0', e1, e2, e3, e4, e5, e6, e7, e8, e9, e10, e11, n1, ra]
    simp at ih'
    exact ih' _ (by simp)
end Go.Proofs.YtjmcgdhekjkjfaaDoor
