/- The head of layer 14's statements. -/
import Derived.Test.YtjmcgdhekjkjfaaDoorSK
import Derived.Test.YtjmcgdhekjkjfaaDoorSE
import Derived.Test.YtjmcgdhekjkjfaaDoorVMU
import Derived.Test.YtjmcgdhekjkjfaaDoorSJ
import Derived.Test.YtjmcgdhekjkjfaaDoorSH
import Derived.Test.YtjmcgdhekjkjfaaDoorSG
set_option linter.unusedSimpArgs false
set_option linter.unusedVariables false
namespace Go.Proofs.YtjmcgdhekjkjfaaDoor
open Go Go.VM
set_option maxRecDepth 100000
set_option maxHeartbeats 4000000
def z48 : List Int := List.replicate 48 0
theorem q_dig : callN (envG gEs) 400 15 49 [.d (.nums .u8 false z48)] = some ⟨[.d (limbD [0, 0, 0, 0, 0, 0]), .d .nilifc], []⟩ := by kernel_rfl
theorem q_sc : callN (envG gEs) 400 15 76 [.d (limbD [0, 0, 0, 0, 0, 0])] = some ⟨[.d (.bool false)], []⟩ := by kernel_rfl
theorem q_G : callN (envG gEs) 400 15 75 [] = some ⟨[.d (.agg baseC)], []⟩ := by kernel_rfl
theorem q_sign : callN (envG gEs) 400 16 48 [.d (limbD [0, 0, 0, 0, 0, 0]), .d (limbD [1, 0, 0, 0, 0, 0]), .d (.nums .u8 false z48)] = some ⟨[.d (.agg (u64s [0, 0, 0, 0, 0, 0, 0, 0, 0, 0, 0, 0])), .d (err 3)], []⟩ := by kernel_rfl
theorem q_verify (F n : Nat) (hF : 400 ≤ F) : callN (envG gEs) F (n+16) 74 [.d (.agg baseC), .d (.nums .u8 false z48), .d (.agg (u64s [0, 0, 0, 0, 0, 0, 0, 0, 0, 0, 0, 0]))] = some ⟨[.d (err 3)], []⟩ := by
  have k1 := q_On F n hF
  have k2 := callN_mono hF (show 15 ≤ n + 15 by omega) q_dig
  have k3 := callN_mono hF (show 15 ≤ n + 15 by omega) q_sc
  generalize z48 = zs at *
  rw [callN_run (fn := Tryd.f74) rfl rfl rfl (by simp [Tryd.ntmps74])]
  generalize hC : (envG gEs).ctx 74 (callN (envG gEs) F (n+15)) (callP (envG gEs) F (n+15)) = C
  have htt : C.tt = (envG gEs).tt := by rw [← hC]; rfl
  have hlin : C.lin = [] := by rw [← hC]; rfl
  have hreg : C.reg = reg74 := by rw [← hC]; rfl
  have hcall : C.call = callN (envG gEs) F (n+15) := by rw [← hC]; rfl
  have hcallP : C.callP = callP (envG gEs) F (n+15) := by rw [← hC]; rfl
  have hlv_200009 : C.live 200009 = [] := by rw [← hC]; rfl
  have hlv_250009 : C.live 250009 = [] := by rw [← hC]; rfl
  have hlv_200010 : C.live 200010 = [] := by rw [← hC]; rfl
  have hlv_250010 : C.live 250010 = [] := by rw [← hC]; rfl
  clear hC
  unfold err
  simp only [limbD, baseC, u64s, List.map, List.cons_append, List.nil_append] at *
  simp [htt, hlin, hreg, reg74, hcall, hcallP, hlv_200009, hlv_250009, hlv_200010, hlv_250010, k1, k2, k3]
theorem up14 (F n : Nat) (hF : 400 ≤ F) : callN (envG gEs) F (n+17) 35 [] = some ⟨[.d (.bool true)], []⟩ := by
  have k1 := q_verify F n hF
  have k2 := callN_mono hF (show 16 ≤ n + 16 by omega) q_sign
  have k3 := callN_mono hF (show 15 ≤ n + 16 by omega) q_G
  rw [callN_run (fn := Tryd.f35) rfl rfl rfl (by simp [Tryd.ntmps35])]
  generalize hC : (envG gEs).ctx 35 (callN (envG gEs) F (n+16)) (callP (envG gEs) F (n+16)) = C
  have htt : C.tt = (envG gEs).tt := by rw [← hC]; rfl
  have hlin : C.lin = [] := by rw [← hC]; rfl
  have hreg : C.reg = reg35 := by rw [← hC]; rfl
  have hcall : C.call = callN (envG gEs) F (n+16) := by rw [← hC]; rfl
  have hcallP : C.callP = callP (envG gEs) F (n+16) := by rw [← hC]; rfl
  have hlv_200001 : C.live 200001 = [] := by rw [← hC]; rfl
  have hlv_250001 : C.live 250001 = [] := by rw [← hC]; rfl
  clear hC
  unfold err at *
  simp only [limbD, baseC, u64s, List.map, List.cons_append, List.nil_append] at *
  have hz : z48 = [0, 0, 0, 0, 0, 0, 0, 0, 0, 0, 0, 0, 0, 0, 0, 0, 0, 0, 0, 0, 0, 0, 0, 0, 0, 0, 0, 0, 0, 0, 0, 0, 0, 0, 0, 0, 0, 0, 0, 0, 0, 0, 0, 0, 0, 0, 0, 0] := rfl
  rw [hz] at k1 k2
  simp [htt, hlin, hreg, reg35, hcall, hcallP, hlv_200001, hlv_250001, k1, k2, k3]
end Go.Proofs.YtjmcgdhekjkjfaaDoor
set_option linter.unusedSimpArgs false
set_option linter.unusedVariables false
namespace Go.Proofs.YtjmcgdhekjkjfaaDoor
open Go Go.VM
set_option maxRecDepth 100000
set_option maxHeartbeats 8000000
theorem s_sub : SubK gEs := fun F n a0 a1 a2 a3 a4 a5 b0 b1 b2 b3 b4 b5 hF => by
  rw [callN_succ]
  rfl
theorem s_group : GroupG gEs := rfl
theorem t_dShort (F n : Nat) (nl : Bool) (b : List Int) (h : b.length < 48) : callN (envG gEs) F (n+2) 49 [.d (.nums .u8 nl b)] = some ⟨[.d (.agg [.int .u64 0, .int .u64 0, .int .u64 0, .int .u64 0, .int .u64 0, .int .u64 0]), .d (err 6)], []⟩ := by
  have e1 : (b.length : Int) < 48 := by omega
  have k : callN (envG gEs) F (n+1) 87 [.d (.nums .u8 nl b)] = some ⟨[.d (.agg [.int .u64 0, .int .u64 0, .int .u64 0, .int .u64 0, .int .u64 0, .int .u64 0]), .d (err 6)], []⟩ := by
    unfold err
    rw [callN_run (fn := Tryd.f87) rfl rfl rfl (by simp [Tryd.ntmps87])]
    generalize hC : (envG gEs).ctx 87 (callN (envG gEs) F (n)) (callP (envG gEs) F (n)) = C
    have htt : C.tt = (envG gEs).tt := by rw [← hC]; rfl
    have hlin : C.lin = [] := by rw [← hC]; rfl
    have hreg : C.reg = reg87 := by rw [← hC]; rfl
    have hcall : C.call = callN (envG gEs) F (n) := by rw [← hC]; rfl
    have hcallP : C.callP = callP (envG gEs) F (n) := by rw [← hC]; rfl
    have hlv_7 : C.live 7 = [0, 2, 4, 18] := by rw [← hC]; rfl
    have hlv_100007 : C.live 100007 = [2, 3, 4] := by rw [← hC]; rfl
    have hlv_200009 : C.live 200009 = [] := by rw [← hC]; rfl
    have hlv_250009 : C.live 250009 = [] := by rw [← hC]; rfl
    clear hC
    simp [htt, hlin, hreg, reg87, hcall, hcallP, hlv_7, hlv_100007, hlv_200009, hlv_250009, e1]
  unfold err at *
  rw [callN_run (fn := Tryd.f49) rfl rfl rfl (by simp [Tryd.ntmps49])]
  generalize hC : (envG gEs).ctx 49 (callN (envG gEs) F (n+1)) (callP (envG gEs) F (n+1)) = C
  have htt : C.tt = (envG gEs).tt := by rw [← hC]; rfl
  have hlin : C.lin = [] := by rw [← hC]; rfl
  have hreg : C.reg = reg49 := by rw [← hC]; rfl
  have hcall : C.call = callN (envG gEs) F (n+1) := by rw [← hC]; rfl
  have hcallP : C.callP = callP (envG gEs) F (n+1) := by rw [← hC]; rfl
  clear hC
  simp [htt, hlin, hreg, reg49, hcall, hcallP, k]
theorem t_dMore (F n : Nat) (nl : Bool) (b : List Int) (h : 48 < b.length) : callN (envG gEs) F (n+2) 49 [.d (.nums .u8 nl b)] = some ⟨[.d (.agg [.int .u64 0, .int .u64 0, .int .u64 0, .int .u64 0, .int .u64 0, .int .u64 0]), .d (err 8)], []⟩ := by
  have e1 : (48 : Int) < b.length := by omega
  have e2 : ¬ (b.length : Int) < 48 := by omega
  have k : callN (envG gEs) F (n+1) 87 [.d (.nums .u8 nl b)] = some ⟨[.d (.agg [.int .u64 0, .int .u64 0, .int .u64 0, .int .u64 0, .int .u64 0, .int .u64 0]), .d (err 8)], []⟩ := by
    unfold err
    rw [callN_run (fn := Tryd.f87) rfl rfl rfl (by simp [Tryd.ntmps87])]
    generalize hC : (envG gEs).ctx 87 (callN (envG gEs) F (n)) (callP (envG gEs) F (n)) = C
    have htt : C.tt = (envG gEs).tt := by rw [← hC]; rfl
    have hlin : C.lin = [] := by rw [← hC]; rfl
    have hreg : C.reg = reg87 := by rw [← hC]; rfl
    have hcall : C.call = callN (envG gEs) F (n) := by rw [← hC]; rfl
    have hcallP : C.callP = callP (envG gEs) F (n) := by rw [← hC]; rfl
    have hlv_7 : C.live 7 = [0, 2, 4, 18] := by rw [← hC]; rfl
    have hlv_100007 : C.live 100007 = [2, 3, 4] := by rw [← hC]; rfl
    have hlv_200009 : C.live 200009 = [] := by rw [← hC]; rfl
    have hlv_250009 : C.live 250009 = [] := by rw [← hC]; rfl
    clear hC
    simp [htt, hlin, hreg, reg87, hcall, hcallP, hlv_7, hlv_100007, hlv_200009, hlv_250009, e1, e2]
  unfold err at *
  rw [callN_run (fn := Tryd.f49) rfl rfl rfl (by simp [Tryd.ntmps49])]
  generalize hC : (envG gEs).ctx 49 (callN (envG gEs) F (n+1)) (callP (envG gEs) F (n+1)) = C
  have htt : C.tt = (envG gEs).tt := by rw [← hC]; rfl
  have hlin : C.lin = [] := by rw [← hC]; rfl
  have hreg : C.reg = reg49 := by rw [← hC]; rfl
  have hcall : C.call = callN (envG gEs) F (n+1) := by rw [← hC]; rfl
  have hcallP : C.callP = callP (envG gEs) F (n+1) := by rw [← hC]; rfl
  clear hC
  simp [htt, hlin, hreg, reg49, hcall, hcallP, k]
theorem t_dOk (F n : Nat) (hF : 400 ≤ F) (hn : 40 ≤ n) (b : List Int) (h : b.length = 48) : ∃ h0 h1 h2 h3 h4 h5, callN (envG gEs) F (n+4) 49 [.d (.nums .u8 false b)] = some ⟨[.d (.agg [.int .u64 h0, .int .u64 h1, .int .u64 h2, .int .u64 h3, .int .u64 h4, .int .u64 h5]), .d .nilifc], []⟩ := by
  have k := callN_mono (E := (envG gEs)) (show 60 ≤ F by omega) (show 3 ≤ n + 3 by omega) (run_From (G := gEs) (fun i => b.getD i 0))
  have e : (List.range 48).map (fun i => b.getD i 0) = b := by
    apply List.ext_getElem?
    intro j
    rw [List.getElem?_map]
    rcases Nat.lt_or_ge j 48 with h2 | h2
    · rw [List.getElem?_range h2]
      have : j < b.length := by omega
      simp [List.getD, this]
    · rw [List.getElem?_eq_none (by simpa using h2), List.getElem?_eq_none (by omega)]
      rfl
  rw [e] at k
  obtain ⟨l0, l1, l2, l3, l4, l5, hl⟩ : ∃ l0 l1 l2 l3 l4 l5, (L6 fun i => b.getD i 0) = [l0, l1, l2, l3, l4, l5] := ⟨_, _, _, _, _, _, rfl⟩
  rw [hl] at k
  obtain ⟨h0, h1, h2, h3, h4, h5, kh⟩ := (tt_oRest.mono hF (show 40 ≤ n + 3 by omega)).get6 (args := [.d (.agg [.int .u64 l0, .int .u64 l1, .int .u64 l2, .int .u64 l3, .int .u64 l4, .int .u64 l5])]) rfl
  refine ⟨h0, h1, h2, h3, h4, h5, ?_⟩
  simp only [limbD, List.map] at k
  clear hl e
  rw [callN_run (fn := Tryd.f49) rfl rfl rfl (by simp [Tryd.ntmps49])]
  generalize hC : (envG gEs).ctx 49 (callN (envG gEs) F (n+3)) (callP (envG gEs) F (n+3)) = C
  have htt : C.tt = (envG gEs).tt := by rw [← hC]; rfl
  have hlin : C.lin = [] := by rw [← hC]; rfl
  have hreg : C.reg = reg49 := by rw [← hC]; rfl
  have hcall : C.call = callN (envG gEs) F (n+3) := by rw [← hC]; rfl
  have hcallP : C.callP = callP (envG gEs) F (n+3) := by rw [← hC]; rfl
  clear hC
  simp [htt, hlin, hreg, reg49, hcall, hcallP, k, kh]
theorem t_Sign_no (F n : Nat) (a0 a1 a2 a3 a4 a5 k0 k1 k2 k3 k4 k5 : Int) (nl : Bool) (b : List Int) (sa sk : Bool) (ha : callN (envG gEs) F n 76 [.d (.agg [.int .u64 a0, .int .u64 a1, .int .u64 a2, .int .u64 a3, .int .u64 a4, .int .u64 a5])] = some ⟨[.d (.bool sa)], []⟩) (hk : callN (envG gEs) F n 76 [.d (.agg [.int .u64 k0, .int .u64 k1, .int .u64 k2, .int .u64 k3, .int .u64 k4, .int .u64 k5])] = some ⟨[.d (.bool sk)], []⟩) (h : (sa && sk) = false) :
    callN (envG gEs) F (n+1) 48 [.d (.agg [.int .u64 a0, .int .u64 a1, .int .u64 a2, .int .u64 a3, .int .u64 a4, .int .u64 a5]), .d (.agg [.int .u64 k0, .int .u64 k1, .int .u64 k2, .int .u64 k3, .int .u64 k4, .int .u64 k5]), .d (.nums .u8 nl b)] = some ⟨[.d (.agg [.int .u64 0, .int .u64 0, .int .u64 0, .int .u64 0, .int .u64 0, .int .u64 0, .int .u64 0, .int .u64 0, .int .u64 0, .int .u64 0, .int .u64 0, .int .u64 0]), .d (err 3)], []⟩ := by
  unfold err
  cases sa with
  | false =>
    rw [callN_run (fn := Tryd.f48) rfl rfl rfl (by simp [Tryd.ntmps48])]
    generalize hC : (envG gEs).ctx 48 (callN (envG gEs) F (n)) (callP (envG gEs) F (n)) = C
    have htt : C.tt = (envG gEs).tt := by rw [← hC]; rfl
    have hlin : C.lin = [] := by rw [← hC]; rfl
    have hreg : C.reg = reg48 := by rw [← hC]; rfl
    have hcall : C.call = callN (envG gEs) F (n) := by rw [← hC]; rfl
    have hcallP : C.callP = callP (envG gEs) F (n) := by rw [← hC]; rfl
    have hlv_200007 : C.live 200007 = [] := by rw [← hC]; rfl
    have hlv_250007 : C.live 250007 = [] := by rw [← hC]; rfl
    clear hC
    simp [htt, hlin, hreg, reg48, hcall, hcallP, hlv_200007, hlv_250007, ha]
  | true =>
    cases sk with
    | false =>
      rw [callN_run (fn := Tryd.f48) rfl rfl rfl (by simp [Tryd.ntmps48])]
      generalize hC : (envG gEs).ctx 48 (callN (envG gEs) F (n)) (callP (envG gEs) F (n)) = C
      have htt : C.tt = (envG gEs).tt := by rw [← hC]; rfl
      have hlin : C.lin = [] := by rw [← hC]; rfl
      have hreg : C.reg = reg48 := by rw [← hC]; rfl
      have hcall : C.call = callN (envG gEs) F (n) := by rw [← hC]; rfl
      have hcallP : C.callP = callP (envG gEs) F (n) := by rw [← hC]; rfl
      have hlv_200007 : C.live 200007 = [] := by rw [← hC]; rfl
      have hlv_250007 : C.live 250007 = [] := by rw [← hC]; rfl
      clear hC
      simp [htt, hlin, hreg, reg48, hcall, hcallP, hlv_200007, hlv_250007, ha, hk]
    | true => cases h
theorem t_Sign_dig (F n : Nat) (a0 a1 a2 a3 a4 a5 k0 k1 k2 k3 k4 k5 : Int) (nl : Bool) (b : List Int) (c : Int) (ha : callN (envG gEs) F n 76 [.d (.agg [.int .u64 a0, .int .u64 a1, .int .u64 a2, .int .u64 a3, .int .u64 a4, .int .u64 a5])] = some ⟨[.d (.bool true)], []⟩) (hk : callN (envG gEs) F n 76 [.d (.agg [.int .u64 k0, .int .u64 k1, .int .u64 k2, .int .u64 k3, .int .u64 k4, .int .u64 k5])] = some ⟨[.d (.bool true)], []⟩)
    (hd : callN (envG gEs) F n 49 [.d (.nums .u8 nl b)] = some ⟨[.d (.agg [.int .u64 0, .int .u64 0, .int .u64 0, .int .u64 0, .int .u64 0, .int .u64 0]), .d (err c)], []⟩) :
    callN (envG gEs) F (n+1) 48 [.d (.agg [.int .u64 a0, .int .u64 a1, .int .u64 a2, .int .u64 a3, .int .u64 a4, .int .u64 a5]), .d (.agg [.int .u64 k0, .int .u64 k1, .int .u64 k2, .int .u64 k3, .int .u64 k4, .int .u64 k5]), .d (.nums .u8 nl b)] = some ⟨[.d (.agg [.int .u64 0, .int .u64 0, .int .u64 0, .int .u64 0, .int .u64 0, .int .u64 0, .int .u64 0, .int .u64 0, .int .u64 0, .int .u64 0, .int .u64 0, .int .u64 0]), .d (err c)], []⟩ := by
  unfold err at *
  rw [callN_run (fn := Tryd.f48) rfl rfl rfl (by simp [Tryd.ntmps48])]
  generalize hC : (envG gEs).ctx 48 (callN (envG gEs) F (n)) (callP (envG gEs) F (n)) = C
  have htt : C.tt = (envG gEs).tt := by rw [← hC]; rfl
  have hlin : C.lin = [] := by rw [← hC]; rfl
  have hreg : C.reg = reg48 := by rw [← hC]; rfl
  have hcall : C.call = callN (envG gEs) F (n) := by rw [← hC]; rfl
  have hcallP : C.callP = callP (envG gEs) F (n) := by rw [← hC]; rfl
  have hlv_200007 : C.live 200007 = [] := by rw [← hC]; rfl
  have hlv_250007 : C.live 250007 = [] := by rw [← hC]; rfl
  clear hC
  simp [htt, hlin, hreg, reg48, hcall, hcallP, hlv_200007, hlv_250007, ha, hk, hd]
structure SumK (G : GE) (F n : Nat) (a0 a1 a2 a3 a4 a5 k0 k1 k2 k3 k4 k5 h0 h1 h2 h3 h4 h5 x0 x1 x2 x3 x4 x5 y0 y1 y2 y3 y4 y5 : Int) (pn : Bool) (r0 r1 r2 r3 r4 r5 p0 p1 p2 p3 p4 p5 q0 q1 q2 q3 q4 q5 v0 v1 v2 v3 v4 v5 t0 t1 t2 t3 t4 t5 : Int) : Prop where
  base : callN (envG G) F n 51 [.d (.agg [.int .u64 k0, .int .u64 k1, .int .u64 k2, .int .u64 k3, .int .u64 k4, .int .u64 k5])] = some ⟨[.d (.agg [.int .u64 x0, .int .u64 x1, .int .u64 x2, .int .u64 x3, .int .u64 x4, .int .u64 x5, .int .u64 y0, .int .u64 y1, .int .u64 y2, .int .u64 y3, .int .u64 y4, .int .u64 y5, .bool pn])], []⟩
  rest : callN (envG G) F n 52 [.d (.agg [.int .u64 x0, .int .u64 x1, .int .u64 x2, .int .u64 x3, .int .u64 x4, .int .u64 x5])] = some ⟨[.d (.agg [.int .u64 r0, .int .u64 r1, .int .u64 r2, .int .u64 r3, .int .u64 r4, .int .u64 r5])], []⟩
  m1 : callN (envG G) F n 53 [.d (.agg [.int .u64 r0, .int .u64 r1, .int .u64 r2, .int .u64 r3, .int .u64 r4, .int .u64 r5]), .d (.agg [.int .u64 a0, .int .u64 a1, .int .u64 a2, .int .u64 a3, .int .u64 a4, .int .u64 a5])] = some ⟨[.d (.agg [.int .u64 p0, .int .u64 p1, .int .u64 p2, .int .u64 p3, .int .u64 p4, .int .u64 p5])], []⟩
  sum : callN (envG G) F n 54 [.d (.agg [.int .u64 h0, .int .u64 h1, .int .u64 h2, .int .u64 h3, .int .u64 h4, .int .u64 h5]), .d (.agg [.int .u64 p0, .int .u64 p1, .int .u64 p2, .int .u64 p3, .int .u64 p4, .int .u64 p5])] = some ⟨[.d (.agg [.int .u64 q0, .int .u64 q1, .int .u64 q2, .int .u64 q3, .int .u64 q4, .int .u64 q5])], []⟩
  inv : callN (envG G) F n 55 [.d (.agg [.int .u64 k0, .int .u64 k1, .int .u64 k2, .int .u64 k3, .int .u64 k4, .int .u64 k5])] = some ⟨[.d (.agg [.int .u64 v0, .int .u64 v1, .int .u64 v2, .int .u64 v3, .int .u64 v4, .int .u64 v5])], []⟩
  m2 : callN (envG G) F n 53 [.d (.agg [.int .u64 q0, .int .u64 q1, .int .u64 q2, .int .u64 q3, .int .u64 q4, .int .u64 q5]), .d (.agg [.int .u64 v0, .int .u64 v1, .int .u64 v2, .int .u64 v3, .int .u64 v4, .int .u64 v5])] = some ⟨[.d (.agg [.int .u64 t0, .int .u64 t1, .int .u64 t2, .int .u64 t3, .int .u64 t4, .int .u64 t5])], []⟩
theorem SumK.mono {G : GE} {F n n' : Nat} {a0 a1 a2 a3 a4 a5 k0 k1 k2 k3 k4 k5 h0 h1 h2 h3 h4 h5 x0 x1 x2 x3 x4 x5 y0 y1 y2 y3 y4 y5 : Int} {pn : Bool} {r0 r1 r2 r3 r4 r5 p0 p1 p2 p3 p4 p5 q0 q1 q2 q3 q4 q5 v0 v1 v2 v3 v4 v5 t0 t1 t2 t3 t4 t5 : Int}
    (h : SumK G F n a0 a1 a2 a3 a4 a5 k0 k1 k2 k3 k4 k5 h0 h1 h2 h3 h4 h5 x0 x1 x2 x3 x4 x5 y0 y1 y2 y3 y4 y5 pn r0 r1 r2 r3 r4 r5 p0 p1 p2 p3 p4 p5 q0 q1 q2 q3 q4 q5 v0 v1 v2 v3 v4 v5 t0 t1 t2 t3 t4 t5) (hn : n ≤ n') : SumK G F n' a0 a1 a2 a3 a4 a5 k0 k1 k2 k3 k4 k5 h0 h1 h2 h3 h4 h5 x0 x1 x2 x3 x4 x5 y0 y1 y2 y3 y4 y5 pn r0 r1 r2 r3 r4 r5 p0 p1 p2 p3 p4 p5 q0 q1 q2 q3 q4 q5 v0 v1 v2 v3 v4 v5 t0 t1 t2 t3 t4 t5 :=
  ⟨callN_mono (Nat.le_refl _) hn h.base, callN_mono (Nat.le_refl _) hn h.rest, callN_mono (Nat.le_refl _) hn h.m1, callN_mono (Nat.le_refl _) hn h.sum, callN_mono (Nat.le_refl _) hn h.inv, callN_mono (Nat.le_refl _) hn h.m2⟩
theorem sum_some (F n : Nat) (hF : 400 ≤ F) (hn : 70 ≤ n) (a0 a1 a2 a3 a4 a5 k0 k1 k2 k3 k4 k5 h0 h1 h2 h3 h4 h5 : Int) : ∃ x0 x1 x2 x3 x4 x5 y0 y1 y2 y3 y4 y5 pn r0 r1 r2 r3 r4 r5 p0 p1 p2 p3 p4 p5 q0 q1 q2 q3 q4 q5 v0 v1 v2 v3 v4 v5 t0 t1 t2 t3 t4 t5,
    SumK gEs F n a0 a1 a2 a3 a4 a5 k0 k1 k2 k3 k4 k5 h0 h1 h2 h3 h4 h5 x0 x1 x2 x3 x4 x5 y0 y1 y2 y3 y4 y5 pn r0 r1 r2 r3 r4 r5 p0 p1 p2 p3 p4 p5 q0 q1 q2 q3 q4 q5 v0 v1 v2 v3 v4 v5 t0 t1 t2 t3 t4 t5 := by
  obtain ⟨x0, x1, x2, x3, x4, x5, y0, y1, y2, y3, y4, y5, pn, w1⟩ := getPtT (tt_Base.mono hF hn) (args := [.d (.agg [.int .u64 k0, .int .u64 k1, .int .u64 k2, .int .u64 k3, .int .u64 k4, .int .u64 k5])]) rfl
  obtain ⟨r0, r1, r2, r3, r4, r5, w2⟩ := (tt_oRest.mono hF (show 40 ≤ n by omega)).get6 (args := [.d (.agg [.int .u64 x0, .int .u64 x1, .int .u64 x2, .int .u64 x3, .int .u64 x4, .int .u64 x5])]) rfl
  obtain ⟨p0, p1, p2, p3, p4, p5, w3⟩ := (tt_oMul.mono hF (show 40 ≤ n by omega)).get6 (args := [.d (.agg [.int .u64 r0, .int .u64 r1, .int .u64 r2, .int .u64 r3, .int .u64 r4, .int .u64 r5]), .d (.agg [.int .u64 a0, .int .u64 a1, .int .u64 a2, .int .u64 a3, .int .u64 a4, .int .u64 a5])]) rfl
  obtain ⟨q0, q1, q2, q3, q4, q5, w4⟩ := (tt_oAdd.mono hF (show 40 ≤ n by omega)).get6 (args := [.d (.agg [.int .u64 h0, .int .u64 h1, .int .u64 h2, .int .u64 h3, .int .u64 h4, .int .u64 h5]), .d (.agg [.int .u64 p0, .int .u64 p1, .int .u64 p2, .int .u64 p3, .int .u64 p4, .int .u64 p5])]) rfl
  obtain ⟨v0, v1, v2, v3, v4, v5, w5⟩ := (tt_oInv.mono hF (show 40 ≤ n by omega)).get6 (args := [.d (.agg [.int .u64 k0, .int .u64 k1, .int .u64 k2, .int .u64 k3, .int .u64 k4, .int .u64 k5])]) rfl
  obtain ⟨t0, t1, t2, t3, t4, t5, w6⟩ := (tt_oMul.mono hF (show 40 ≤ n by omega)).get6 (args := [.d (.agg [.int .u64 q0, .int .u64 q1, .int .u64 q2, .int .u64 q3, .int .u64 q4, .int .u64 q5]), .d (.agg [.int .u64 v0, .int .u64 v1, .int .u64 v2, .int .u64 v3, .int .u64 v4, .int .u64 v5])]) rfl
  exact ⟨_, _, _, _, _, _, _, _, _, _, _, _, _, _, _, _, _, _, _, _, _, _, _, _, _, _, _, _, _, _, _, _, _, _, _, _, _, _, _, _, _, _, _, w1, w2, w3, w4, w5, w6⟩
theorem t_Sign_sum (F n : Nat) (a0 a1 a2 a3 a4 a5 k0 k1 k2 k3 k4 k5 : Int) (nl : Bool) (b : List Int) (ha : callN (envG gEs) F n 76 [.d (.agg [.int .u64 a0, .int .u64 a1, .int .u64 a2, .int .u64 a3, .int .u64 a4, .int .u64 a5])] = some ⟨[.d (.bool true)], []⟩) (hk : callN (envG gEs) F n 76 [.d (.agg [.int .u64 k0, .int .u64 k1, .int .u64 k2, .int .u64 k3, .int .u64 k4, .int .u64 k5])] = some ⟨[.d (.bool true)], []⟩)
    (h0 h1 h2 h3 h4 h5 x0 x1 x2 x3 x4 x5 y0 y1 y2 y3 y4 y5 : Int) (pn : Bool) (r0 r1 r2 r3 r4 r5 p0 p1 p2 p3 p4 p5 q0 q1 q2 q3 q4 q5 v0 v1 v2 v3 v4 v5 t0 t1 t2 t3 t4 t5 : Int)
    (hd : callN (envG gEs) F n 49 [.d (.nums .u8 nl b)] = some ⟨[.d (.agg [.int .u64 h0, .int .u64 h1, .int .u64 h2, .int .u64 h3, .int .u64 h4, .int .u64 h5]), .d .nilifc], []⟩)
    (hs : SumK gEs F n a0 a1 a2 a3 a4 a5 k0 k1 k2 k3 k4 k5 h0 h1 h2 h3 h4 h5 x0 x1 x2 x3 x4 x5 y0 y1 y2 y3 y4 y5 pn r0 r1 r2 r3 r4 r5 p0 p1 p2 p3 p4 p5 q0 q1 q2 q3 q4 q5 v0 v1 v2 v3 v4 v5 t0 t1 t2 t3 t4 t5) :
    callN (envG gEs) F (n+1) 48 [.d (.agg [.int .u64 a0, .int .u64 a1, .int .u64 a2, .int .u64 a3, .int .u64 a4, .int .u64 a5]), .d (.agg [.int .u64 k0, .int .u64 k1, .int .u64 k2, .int .u64 k3, .int .u64 k4, .int .u64 k5]), .d (.nums .u8 nl b)] = some (if ((decide (r0 = 0) && decide (r1 = 0) && decide (r2 = 0) && decide (r3 = 0) && decide (r4 = 0) && decide (r5 = 0)) || (decide (t0 = 0) && decide (t1 = 0) && decide (t2 = 0) && decide (t3 = 0) && decide (t4 = 0) && decide (t5 = 0))) = true then ⟨[.d (.agg [.int .u64 0, .int .u64 0, .int .u64 0, .int .u64 0, .int .u64 0, .int .u64 0, .int .u64 0, .int .u64 0, .int .u64 0, .int .u64 0, .int .u64 0, .int .u64 0]), .d (err 10)], []⟩ else ⟨[.d (.agg [.int .u64 r0, .int .u64 r1, .int .u64 r2, .int .u64 r3, .int .u64 r4, .int .u64 r5, .int .u64 t0, .int .u64 t1, .int .u64 t2, .int .u64 t3, .int .u64 t4, .int .u64 t5]), .d .nilifc], []⟩) := by
  obtain ⟨w1, w2, w3, w4, w5, w6⟩ := hs
  unfold err
  cases hr : (decide (r0 = 0) && decide (r1 = 0) && decide (r2 = 0) && decide (r3 = 0) && decide (r4 = 0) && decide (r5 = 0)) with
  | true =>
    rw [callN_run (fn := Tryd.f48) rfl rfl rfl (by simp [Tryd.ntmps48])]
    generalize hC : (envG gEs).ctx 48 (callN (envG gEs) F (n)) (callP (envG gEs) F (n)) = C
    have htt : C.tt = (envG gEs).tt := by rw [← hC]; rfl
    have hlin : C.lin = [] := by rw [← hC]; rfl
    have hreg : C.reg = reg48 := by rw [← hC]; rfl
    have hcall : C.call = callN (envG gEs) F (n) := by rw [← hC]; rfl
    have hcallP : C.callP = callP (envG gEs) F (n) := by rw [← hC]; rfl
    have hlv_200007 : C.live 200007 = [] := by rw [← hC]; rfl
    have hlv_250007 : C.live 250007 = [] := by rw [← hC]; rfl
    clear hC
    simp [htt, hlin, hreg, reg48, hcall, hcallP, hlv_200007, hlv_250007, ha, hk, hd, w1, w2, w3, w4, w5, w6, bin_eq_agg, (u384_eq (G := gEs)), hr]
  | false =>
    cases ht : (decide (t0 = 0) && decide (t1 = 0) && decide (t2 = 0) && decide (t3 = 0) && decide (t4 = 0) && decide (t5 = 0)) with
    | true =>
      rw [callN_run (fn := Tryd.f48) rfl rfl rfl (by simp [Tryd.ntmps48])]
      generalize hC : (envG gEs).ctx 48 (callN (envG gEs) F (n)) (callP (envG gEs) F (n)) = C
      have htt : C.tt = (envG gEs).tt := by rw [← hC]; rfl
      have hlin : C.lin = [] := by rw [← hC]; rfl
      have hreg : C.reg = reg48 := by rw [← hC]; rfl
      have hcall : C.call = callN (envG gEs) F (n) := by rw [← hC]; rfl
      have hcallP : C.callP = callP (envG gEs) F (n) := by rw [← hC]; rfl
      have hlv_200007 : C.live 200007 = [] := by rw [← hC]; rfl
      have hlv_250007 : C.live 250007 = [] := by rw [← hC]; rfl
      clear hC
      simp [htt, hlin, hreg, reg48, hcall, hcallP, hlv_200007, hlv_250007, ha, hk, hd, w1, w2, w3, w4, w5, w6, bin_eq_agg, (u384_eq (G := gEs)), hr, ht]
    | false =>
      rw [callN_run (fn := Tryd.f48) rfl rfl rfl (by simp [Tryd.ntmps48])]
      generalize hC : (envG gEs).ctx 48 (callN (envG gEs) F (n)) (callP (envG gEs) F (n)) = C
      have htt : C.tt = (envG gEs).tt := by rw [← hC]; rfl
      have hlin : C.lin = [] := by rw [← hC]; rfl
      have hreg : C.reg = reg48 := by rw [← hC]; rfl
      have hcall : C.call = callN (envG gEs) F (n) := by rw [← hC]; rfl
      have hcallP : C.callP = callP (envG gEs) F (n) := by rw [← hC]; rfl
      have hlv_200007 : C.live 200007 = [] := by rw [← hC]; rfl
      have hlv_250007 : C.live 250007 = [] := by rw [← hC]; rfl
      clear hC
      simp [htt, hlin, hreg, reg48, hcall, hcallP, hlv_200007, hlv_250007, ha, hk, hd, w1, w2, w3, w4, w5, w6, bin_eq_agg, (u384_eq (G := gEs)), hr, ht]
end Go.Proofs.YtjmcgdhekjkjfaaDoor
set_option linter.unusedSimpArgs false
set_option linter.unusedVariables false
namespace Go.Proofs.YtjmcgdhekjkjfaaDoor
open Go Go.VM
variable {G : GE}
set_option maxRecDepth 100000
set_option maxHeartbeats 8000000
theorem chain6 (a0 a1 a2 a3 a4 a5 c0 c1 c2 c3 c4 c5 : Int) : (bif a0 == c0 then (bif a1 == c1 then (bif a2 == c2 then (bif a3 == c3 then (bif a4 == c4 then (bif a5 == c5 then some true else some false) else some false) else some false) else some false) else some false) else some false) = some (decide (a0 = c0) && decide (a1 = c1) && decide (a2 = c2) && decide (a3 = c3) && decide (a4 = c4) && decide (a5 = c5)) := by
  have e : ∀ x y : Int, (x == y) = decide (x = y) := fun x y => by by_cases h : x = y <;> simp [h]
  simp only [e]
  cases decide (a0 = c0) <;> cases decide (a1 = c1) <;> cases decide (a2 = c2) <;> cases decide (a3 = c3) <;> cases decide (a4 = c4) <;> cases decide (a5 = c5) <;> rfl
theorem sig_eq {C : Ctx} (htt : C.tt = (envG G).tt) (ox oy : Operand) (a0 a1 a2 a3 a4 a5 b0 b1 b2 b3 b4 b5 c0 c1 c2 c3 c4 c5 d0 d1 d2 d3 d4 d5 : Int) :
    eqK C 66 (.struct [(0, 64), (6, 64)]) true ox oy (.d (.agg [.int .u64 a0, .int .u64 a1, .int .u64 a2, .int .u64 a3, .int .u64 a4, .int .u64 a5, .int .u64 b0, .int .u64 b1, .int .u64 b2, .int .u64 b3, .int .u64 b4, .int .u64 b5])) (.d (.agg [.int .u64 c0, .int .u64 c1, .int .u64 c2, .int .u64 c3, .int .u64 c4, .int .u64 c5, .int .u64 d0, .int .u64 d1, .int .u64 d2, .int .u64 d3, .int .u64 d4, .int .u64 d5])) = some ((decide (a0 = c0) && decide (a1 = c1) && decide (a2 = c2) && decide (a3 = c3) && decide (a4 = c4) && decide (a5 = c5)) && (decide (b0 = d0) && decide (b1 = d1) && decide (b2 = d2) && decide (b3 = d3) && decide (b4 = d4) && decide (b5 = d5))) := by
  have h : eqK C 66 (.struct [(0, 64), (6, 64)]) true ox oy (.d (.agg [.int .u64 a0, .int .u64 a1, .int .u64 a2, .int .u64 a3, .int .u64 a4, .int .u64 a5, .int .u64 b0, .int .u64 b1, .int .u64 b2, .int .u64 b3, .int .u64 b4, .int .u64 b5])) (.d (.agg [.int .u64 c0, .int .u64 c1, .int .u64 c2, .int .u64 c3, .int .u64 c4, .int .u64 c5, .int .u64 d0, .int .u64 d1, .int .u64 d2, .int .u64 d3, .int .u64 d4, .int .u64 d5])) =
      (match (bif a0 == c0 then (bif a1 == c1 then (bif a2 == c2 then (bif a3 == c3 then (bif a4 == c4 then (bif a5 == c5 then some true else some false) else some false) else some false) else some false) else some false) else some false) with
        | some x => bif x then (match (bif b0 == d0 then (bif b1 == d1 then (bif b2 == d2 then (bif b3 == d3 then (bif b4 == d4 then (bif b5 == d5 then some true else some false) else some false) else some false) else some false) else some false) else some false) with
          | some y => bif y then some true else some false
          | none => none) else some false
        | none => none) := by
    cases C
    cases htt
    kernel_rfl
  rw [h, chain6, chain6]
  generalize (decide (a0 = c0) && decide (a1 = c1) && decide (a2 = c2) && decide (a3 = c3) && decide (a4 = c4) && decide (a5 = c5)) = x
  generalize (decide (b0 = d0) && decide (b1 = d1) && decide (b2 = d2) && decide (b3 = d3) && decide (b4 = d4) && decide (b5 = d5)) = y
  cases x <;> cases y <;> rfl
end Go.Proofs.YtjmcgdhekjkjfaaDoor
set_option linter.unusedSimpArgs false
set_option linter.unusedVariables false
namespace Go.Proofs.YtjmcgdhekjkjfaaDoor
open Go Go.VM
set_option maxRecDepth 100000
set_option maxHeartbeats 8000000
theorem s_same {C : Ctx} (k : Int) : sameX [.d (.ifc 36 (.int .i64 k)), .d (.ifc 36 (.int .i64 k))] = (if 1 ≤ k ∧ k ≤ 21 then some ⟨[.d (.bool true)], []⟩ else none) := by
  unfold sameX
  by_cases h : 1 ≤ k ∧ k ≤ 21
  · rw [if_pos h]; simp [h.1, h.2]
  · rw [if_neg h]
    have : (decide (1 ≤ k) && decide (k ≤ 21)) = false := by
      by_cases h1 : 1 ≤ k <;> by_cases h2 : k ≤ 21 <;> simp [h1, h2] <;> omega
    simp [this]
theorem t_codeSame (F n : Nat) (k : Int) (h : 1 ≤ k ∧ k ≤ 21) : callN (envG gEs) F (n+1) 50 [.d (err k), .d (err k)] = some ⟨[.d (.bool true)], []⟩ := by
  have e : (envG gEs).ext 50 [.d (err k), .d (err k)] = some ⟨[.d (.bool true)], []⟩ := by
    have := s_same (C := (envG gEs).ctx 0 (callN (envG gEs) 0 0) (callP (envG gEs) 0 0)) k
    rw [if_pos h] at this
    exact this
  rw [callN_succ, e]
theorem es_law (F : Nat) (hF : 400 ≤ F) (n : Nat) (a0 a1 a2 a3 a4 a5 k0 k1 k2 k3 k4 k5 : Int) (ha : In64 [a0, a1, a2, a3, a4, a5]) (hk : In64 [k0, k1, k2, k3, k4, k5]) (nl : Bool) (b : List Int) (hnl : nl = true → b = []) :
    callN (envG gEs) F (n + 120) 10 [.d (.agg [.int .u64 a0, .int .u64 a1, .int .u64 a2, .int .u64 a3, .int .u64 a4, .int .u64 a5]), .d (.agg [.int .u64 k0, .int .u64 k1, .int .u64 k2, .int .u64 k3, .int .u64 k4, .int .u64 k5]), .d (.nums .u8 nl b)] = some ⟨[.d (.bool true)], []⟩ := by
  have hu : callN (envG gEs) F (n + 119) _ _ = _ := up14 F (n + 102) hF
  have hA : callN (envG gEs) F (n + 119) _ _ = _ := t_lScalar (G := gEs) F (n + 115) (by omega) a0 a1 a2 a3 a4 a5 ha
  have hK : callN (envG gEs) F (n + 119) _ _ = _ := t_lScalar (G := gEs) F (n + 115) (by omega) k0 k1 k2 k3 k4 k5 hk
  have sA : callN (envG gEs) F (n + 118) _ _ = _ := t_eScalar (G := gEs) s_sub s_group F (n + 114) (by omega) a0 a1 a2 a3 a4 a5 ha
  have sK : callN (envG gEs) F (n + 118) _ _ = _ := t_eScalar (G := gEs) s_sub s_group F (n + 114) (by omega) k0 k1 k2 k3 k4 k5 hk
  have hS6 := t_codeSame F (n + 118) 6 (by omega)
  have hS8 := t_codeSame F (n + 118) 8 (by omega)
  generalize isScalar [a0, a1, a2, a3, a4, a5] = sa at *
  generalize isScalar [k0, k1, k2, k3, k4, k5] = sk at *
  clear ha hk
  simp only [limbD, List.map] at hA hK sA sK
  unfold err at hS6 hS8
  cases hsc : (sa && sk) with
  | false =>
    have hs := t_Sign_no F (n + 118) a0 a1 a2 a3 a4 a5 k0 k1 k2 k3 k4 k5 nl b sa sk sA sK hsc
    clear sA sK
    unfold err at hs
    cases sa with
    | false =>
      rw [callN_run (fn := Tryd.f10) rfl rfl rfl (by simp [Tryd.ntmps10])]
      generalize hC : (envG gEs).ctx 10 (callN (envG gEs) F (n + 119)) (callP (envG gEs) F (n + 119)) = C
      have htt : C.tt = (envG gEs).tt := by rw [← hC]; rfl
      have hlin : C.lin = [] := by rw [← hC]; rfl
      have hreg : C.reg = reg10 := by rw [← hC]; rfl
      have hcall : C.call = callN (envG gEs) F (n + 119) := by rw [← hC]; rfl
      have hcallP : C.callP = callP (envG gEs) F (n + 119) := by rw [← hC]; rfl
      have hlv_200010 : C.live 200010 = [] := by rw [← hC]; rfl
      have hlv_250010 : C.live 250010 = [] := by rw [← hC]; rfl
      clear hC
      simp [htt, hlin, hreg, reg10, hcall, hcallP, hlv_200010, hlv_250010, hu, hA, hK, hs, bin_eq_agg, (sig_eq (G := gEs))]
    | true =>
      cases sk with
      | false =>
        rw [callN_run (fn := Tryd.f10) rfl rfl rfl (by simp [Tryd.ntmps10])]
        generalize hC : (envG gEs).ctx 10 (callN (envG gEs) F (n + 119)) (callP (envG gEs) F (n + 119)) = C
        have htt : C.tt = (envG gEs).tt := by rw [← hC]; rfl
        have hlin : C.lin = [] := by rw [← hC]; rfl
        have hreg : C.reg = reg10 := by rw [← hC]; rfl
        have hcall : C.call = callN (envG gEs) F (n + 119) := by rw [← hC]; rfl
        have hcallP : C.callP = callP (envG gEs) F (n + 119) := by rw [← hC]; rfl
        have hlv_200010 : C.live 200010 = [] := by rw [← hC]; rfl
        have hlv_250010 : C.live 250010 = [] := by rw [← hC]; rfl
        clear hC
        simp [htt, hlin, hreg, reg10, hcall, hcallP, hlv_200010, hlv_250010, hu, hA, hK, hs, bin_eq_agg, (sig_eq (G := gEs))]
      | true => cases hsc
  | true =>
    obtain ⟨rfl, rfl⟩ : sa = true ∧ sk = true := by simpa using hsc
    rcases Nat.lt_trichotomy b.length 48 with h1 | h1 | h1
    · have hd : callN (envG gEs) F (n + 118) _ _ = _ := t_dShort F (n + 116) nl b h1
      have hD : callN (envG gEs) F (n + 119) _ _ = _ := t_dShort F (n + 117) nl b h1
      have hs := t_Sign_dig F (n + 118) a0 a1 a2 a3 a4 a5 k0 k1 k2 k3 k4 k5 nl b 6 sA sK hd
      clear sA sK hd
      unfold err at hs hD
      rw [callN_run (fn := Tryd.f10) rfl rfl rfl (by simp [Tryd.ntmps10])]
      generalize hC : (envG gEs).ctx 10 (callN (envG gEs) F (n + 119)) (callP (envG gEs) F (n + 119)) = C
      have htt : C.tt = (envG gEs).tt := by rw [← hC]; rfl
      have hlin : C.lin = [] := by rw [← hC]; rfl
      have hreg : C.reg = reg10 := by rw [← hC]; rfl
      have hcall : C.call = callN (envG gEs) F (n + 119) := by rw [← hC]; rfl
      have hcallP : C.callP = callP (envG gEs) F (n + 119) := by rw [← hC]; rfl
      have hlv_200010 : C.live 200010 = [] := by rw [← hC]; rfl
      have hlv_250010 : C.live 250010 = [] := by rw [← hC]; rfl
      clear hC
      simp [htt, hlin, hreg, reg10, hcall, hcallP, hlv_200010, hlv_250010, hu, hA, hK, hs, hD, hS6, bin_eq_agg, (sig_eq (G := gEs))]
    · have hn : nl = false := by
        cases nl with
        | false => rfl
        | true => rw [hnl rfl] at h1; cases h1
      subst hn
      obtain ⟨h0, h1, h2, h3, h4, h5, hd⟩ := t_dOk F (n + 114) hF (by omega) b h1
      have hD : callN (envG gEs) F (n + 119) _ _ = _ := callN_mono (Nat.le_refl F) (show n + 114 + 4 ≤ n + 119 by omega) hd
      obtain ⟨x0, x1, x2, x3, x4, x5, y0, y1, y2, y3, y4, y5, pn, r0, r1, r2, r3, r4, r5, p0, p1, p2, p3, p4, p5, q0, q1, q2, q3, q4, q5, v0, v1, v2, v3, v4, v5, t0, t1, t2, t3, t4, t5, hs0⟩ := sum_some F (n + 118) hF (by omega) a0 a1 a2 a3 a4 a5 k0 k1 k2 k3 k4 k5 h0 h1 h2 h3 h4 h5
      have hs := t_Sign_sum F (n + 118) a0 a1 a2 a3 a4 a5 k0 k1 k2 k3 k4 k5 false b sA sK h0 h1 h2 h3 h4 h5 x0 x1 x2 x3 x4 x5 y0 y1 y2 y3 y4 y5 pn r0 r1 r2 r3 r4 r5 p0 p1 p2 p3 p4 p5 q0 q1 q2 q3 q4 q5 v0 v1 v2 v3 v4 v5 t0 t1 t2 t3 t4 t5 hd hs0
      obtain ⟨w1, w2, w3, w4, w5, w6⟩ := hs0.mono (show n + 118 ≤ n + 119 by omega)
      clear sA sK hd hs0
      unfold err at hs
      cases hr : (decide (r0 = 0) && decide (r1 = 0) && decide (r2 = 0) && decide (r3 = 0) && decide (r4 = 0) && decide (r5 = 0)) with
      | true =>
        rw [hr] at hs
        simp only [Bool.true_or, if_true] at hs
        rw [callN_run (fn := Tryd.f10) rfl rfl rfl (by simp [Tryd.ntmps10])]
        generalize hC : (envG gEs).ctx 10 (callN (envG gEs) F (n + 119)) (callP (envG gEs) F (n + 119)) = C
        have htt : C.tt = (envG gEs).tt := by rw [← hC]; rfl
        have hlin : C.lin = [] := by rw [← hC]; rfl
        have hreg : C.reg = reg10 := by rw [← hC]; rfl
        have hcall : C.call = callN (envG gEs) F (n + 119) := by rw [← hC]; rfl
        have hcallP : C.callP = callP (envG gEs) F (n + 119) := by rw [← hC]; rfl
        have hlv_200010 : C.live 200010 = [] := by rw [← hC]; rfl
        have hlv_250010 : C.live 250010 = [] := by rw [← hC]; rfl
        clear hC
        simp [htt, hlin, hreg, reg10, hcall, hcallP, hlv_200010, hlv_250010, hu, hA, hK, hs, hD, w1, w2, w3, w4, w5, w6, bin_eq_agg, (u384_eq (G := gEs)), (sig_eq (G := gEs)), hr]
      | false =>
        cases ht : (decide (t0 = 0) && decide (t1 = 0) && decide (t2 = 0) && decide (t3 = 0) && decide (t4 = 0) && decide (t5 = 0)) with
        | true =>
          rw [hr, ht] at hs
          simp only [Bool.false_or, if_true] at hs
          rw [callN_run (fn := Tryd.f10) rfl rfl rfl (by simp [Tryd.ntmps10])]
          generalize hC : (envG gEs).ctx 10 (callN (envG gEs) F (n + 119)) (callP (envG gEs) F (n + 119)) = C
          have htt : C.tt = (envG gEs).tt := by rw [← hC]; rfl
          have hlin : C.lin = [] := by rw [← hC]; rfl
          have hreg : C.reg = reg10 := by rw [← hC]; rfl
          have hcall : C.call = callN (envG gEs) F (n + 119) := by rw [← hC]; rfl
          have hcallP : C.callP = callP (envG gEs) F (n + 119) := by rw [← hC]; rfl
          have hlv_200010 : C.live 200010 = [] := by rw [← hC]; rfl
          have hlv_250010 : C.live 250010 = [] := by rw [← hC]; rfl
          clear hC
          simp [htt, hlin, hreg, reg10, hcall, hcallP, hlv_200010, hlv_250010, hu, hA, hK, hs, hD, w1, w2, w3, w4, w5, w6, bin_eq_agg, (u384_eq (G := gEs)), (sig_eq (G := gEs)), hr, ht]
        | false =>
          rw [hr, ht] at hs
          simp only [Bool.false_or, Bool.false_eq_true, if_false] at hs
          rw [callN_run (fn := Tryd.f10) rfl rfl rfl (by simp [Tryd.ntmps10])]
          generalize hC : (envG gEs).ctx 10 (callN (envG gEs) F (n + 119)) (callP (envG gEs) F (n + 119)) = C
          have htt : C.tt = (envG gEs).tt := by rw [← hC]; rfl
          have hlin : C.lin = [] := by rw [← hC]; rfl
          have hreg : C.reg = reg10 := by rw [← hC]; rfl
          have hcall : C.call = callN (envG gEs) F (n + 119) := by rw [← hC]; rfl
          have hcallP : C.callP = callP (envG gEs) F (n + 119) := by rw [← hC]; rfl
          have hlv_200010 : C.live 200010 = [] := by rw [← hC]; rfl
          have hlv_250010 : C.live 250010 = [] := by rw [← hC]; rfl
          clear hC
          simp [htt, hlin, hreg, reg10, hcall, hcallP, hlv_200010, hlv_250010, hu, hA, hK, hs, hD, w1, w2, w3, w4, w5, w6, bin_eq_agg, (u384_eq (G := gEs)), (sig_eq (G := gEs)), hr, ht]
    · have hd : callN (envG gEs) F (n + 118) _ _ = _ := t_dMore F (n + 116) nl b h1
      have hD : callN (envG gEs) F (n + 119) _ _ = _ := t_dMore F (n + 117) nl b h1
      have hs := t_Sign_dig F (n + 118) a0 a1 a2 a3 a4 a5 k0 k1 k2 k3 k4 k5 nl b 8 sA sK hd
      clear sA sK hd
      unfold err at hs hD
      rw [callN_run (fn := Tryd.f10) rfl rfl rfl (by simp [Tryd.ntmps10])]
      generalize hC : (envG gEs).ctx 10 (callN (envG gEs) F (n + 119)) (callP (envG gEs) F (n + 119)) = C
      have htt : C.tt = (envG gEs).tt := by rw [← hC]; rfl
      have hlin : C.lin = [] := by rw [← hC]; rfl
      have hreg : C.reg = reg10 := by rw [← hC]; rfl
      have hcall : C.call = callN (envG gEs) F (n + 119) := by rw [← hC]; rfl
      have hcallP : C.callP = callP (envG gEs) F (n + 119) := by rw [← hC]; rfl
      have hlv_200010 : C.live 200010 = [] := by rw [← hC]; rfl
      have hlv_250010 : C.live 250010 = [] := by rw [← hC]; rfl
      clear hC
      simp [htt, hlin, hreg, reg10, hcall, hcallP, hlv_200010, hlv_250010, hu, hA, hK, hs, hD, hS8, bin_eq_agg, (sig_eq (G := gEs))]
end Go.Proofs.YtjmcgdhekjkjfaaDoor
set_option linter.unusedSimpArgs false
set_option linter.unusedVariables false
namespace Go.Proofs.YtjmcgdhekjkjfaaDoor
open Go Go.VM
variable {G : GE}
set_option maxRecDepth 100000
set_option maxHeartbeats 4000000
def rdr (nl : Bool) (b : List Int) (x y : Int) : Option Blk := some (.cells false [.d (.nums .u8 nl b), .d (.int .i64 x), .d (.int .i64 y)])
theorem t_rfail (F n : Nat) (nl : Bool) (b : List Int) (x y c p : Int) :
    callP (envG G) F (n+1) 97 [.ptr 0 0, .d (.int .i64 c), .d (.int .i64 p)] [rdr nl b x y] [] = some ⟨[], [], [rdr nl b c p], []⟩ := by
  unfold rdr
  rw [callP_run (fn := Tryd.f97) rfl rfl rfl (by simp [Tryd.ntmps97])]
  generalize hC : (envG G).ctx 97 (callN (envG G) F (n)) (callP (envG G) F (n)) = C
  have htt : C.tt = (envG G).tt := by rw [← hC]; rfl
  have hlin : C.lin = [] := by rw [← hC]; rfl
  have hreg : C.reg = reg97 := by rw [← hC]; rfl
  have hcall : C.call = callN (envG G) F (n) := by rw [← hC]; rfl
  have hcallP : C.callP = callP (envG G) F (n) := by rw [← hC]; rfl
  simp [htt, hlin, hreg, reg97, hcall, hcallP]
theorem loop_rlen {m : Nat} {C : Ctx} {F : Nat} (hC : (envG G).ctx 98 (callN (envG G) F (m)) (callP (envG G) F (m)) = C) {c : Code} (hc : loopAt 16 Tryd.f98 = some c) (b : List Int) (i q : Nat) (hb : ∀ c ∈ b, 0 ≤ c ∧ c < 256) (hq : q ≤ 3) (hi : i ≤ 1048577) (hin : i + 1 + q ≤ b.length) (nl : Bool) (x y : Int) :
    ∀ (u j k : Nat) (st : St), j + u = q → u < k →
      st.trim 1 [0, 1, 9, 10, 11] = ⟨[(0, .ptr 0 0), (1, .d (.int .i64 i)), (9, .d (.int .i64 q)), (10, .d (.int .i64 (beN b (i + 1) j))), (11, .d (.int .i64 ((j : Int) + 1)))], [rdr nl b x y], []⟩ →
      iter (ev C F c) 1 [0, 1, 9, 10, 11] [0, 1, 6, 7, 9, 10] k st = some (.exit 0, ⟨[(0, .ptr 0 0), (1, .d (.int .i64 i)), (9, .d (.int .i64 q)), (10, .d (.int .i64 (beN b (i + 1) q)))], [rdr nl b x y], []⟩) := by
  have htt : C.tt = (envG G).tt := by rw [← hC]; rfl
  have hlin : C.lin = [] := by rw [← hC]; rfl
  have hreg : C.reg = reg98 := by rw [← hC]; rfl
  have hcall : C.call = callN (envG G) F (m) := by rw [← hC]; rfl
  have hcallP : C.callP = callP (envG G) F (m) := by rw [← hC]; rfl
  have hlv_16 : C.live 16 = [0, 1, 9, 10, 11] := by rw [← hC]; rfl
  have hlv_100016 : C.live 100016 = [0, 1, 6, 7, 9, 10] := by rw [← hC]; rfl
  have hev : ∀ st, ev C F c st = ev C F ((loopAt 16 Tryd.f98).getD .skip) st := fun st => by rw [hc]; rfl
  unfold rdr
  intro u
  induction u with
  | zero =>
    intro j k st hj hk hst
    obtain ⟨k, rfl⟩ : ∃ j, k = j + 1 := ⟨k - 1, by omega⟩
    have e0 : ¬ ((j : Int) + 1 ≤ (q : Int)) := by omega
    have e0' : ((q : Int) < (j : Int) + 1) := by omega
    have hjq : j = q := by omega
    subst hjq
    rw [iter_eq, hst, hev]
    simp [loopAt, findLoop, Tryd.f98, htt, hlin, hreg, reg98, hcall, hcallP, hlv_16, hlv_100016, e0, e0']
  | succ u ih =>
    intro j k st hj hk hst
    obtain ⟨k, rfl⟩ : ∃ j, k = j + 1 := ⟨k - 1, by omega⟩
    have e0 : ((j : Int) + 1 ≤ (q : Int)) := by omega
    have e0' : ¬ ((q : Int) < (j : Int) + 1) := by omega
    have ra := byteAt_get (b := b) (i := i + 1 + j) (by omega)
    have h1 := beN_ok hb (i + 1) j
    have h2 := byteAt_ok hb (i + 1 + j)
    have hp : (256 : Int) ^ j ≤ 65536 := by
      have : j = 0 ∨ j = 1 ∨ j = 2 := by omega
      rcases this with rfl | rfl | rfl <;> decide
    have ih' := fun st h => ih (j + 1) k st (by omega) (by omega) h
    simp only [beN] at ih'
    have e1 : (j : Int) + 1 + 1 ≤ 9223372036854775807 := by omega
    have e2 : (-9223372036854775808 : Int) ≤ (j : Int) + 1 + 1 := by omega
    have e3 : 256 * beN b (i + 1) j ≤ 9223372036854775807 := by omega
    have e4 : (-9223372036854775808 : Int) ≤ 256 * beN b (i + 1) j := by omega
    have e5 : byteAt b (i + 1 + j) ≤ 9223372036854775807 := by omega
    have e6 : (-9223372036854775808 : Int) ≤ byteAt b (i + 1 + j) := by omega
    have e7 : 256 * beN b (i + 1) j + byteAt b (i + 1 + j) ≤ 9223372036854775807 := by omega
    have e8 : (-9223372036854775808 : Int) ≤ 256 * beN b (i + 1) j + byteAt b (i + 1 + j) := by omega
    have e9 : (i : Int) + ((j : Int) + 1) ≤ 9223372036854775807 := by omega
    have e10 : (-9223372036854775808 : Int) ≤ (i : Int) + ((j : Int) + 1) := by omega
    have e11 : (0 : Int) ≤ (i : Int) + ((j : Int) + 1) := by omega
    have n1 : ((i : Int) + ((j : Int) + 1)).toNat = i + 1 + j := by omega
    rw [iter_eq, hst, hev]
    generalize beN b (i + 1) j = v at *
    generalize byteAt b (i + 1 + j) = x at *
    simp [loopAt, findLoop, Tryd.f98, htt, hlin, hreg, reg98, hcall, hcallP, hlv_16, hlv_100016, e0, e0', e1, e2, e3, e4, e5, e6, e7, e8, e9, e10, e11, n1, ra]
    simp at ih'
    exact ih' _ (by simp)
end Go.Proofs.YtjmcgdhekjkjfaaDoor
set_option linter.unusedSimpArgs false
set_option linter.unusedVariables false
namespace Go.Proofs.YtjmcgdhekjkjfaaDoor
open Go Go.VM
variable {G : GE}
set_option maxRecDepth 100000
set_option maxHeartbeats 4000000
def rlenV (nl : Bool) (b : List Int) (y : Int) : Res (Nat × Nat) → Hand
  | .ok (v, f) => ⟨[.d (.int .i64 v), .d (.int .i64 f)], [], [rdr nl b 0 y], []⟩
  | .bad c p => ⟨[.d (.int .i64 0), .d (.int .i64 0)], [], [rdr nl b c p], []⟩
theorem t_rlength (F n : Nat) (hF : 4 < F) (b : List Int) (nl : Bool) (hb : ∀ c ∈ b, 0 ≤ c ∧ c < 256) (hlen : b.length ≤ 1048576) (i stop : Nat) (hs : stop ≤ b.length) (hi : i ≤ 1048577) (y : Int) :
    callP (envG G) F (n+2) 98 [.ptr 0 0, .d (.int .i64 i), .d (.int .i64 stop)] [rdr nl b 0 y] [] = some (rlenV nl b y (lenB b i stop)) := by
  have ks := fun c p => t_rfail (G := G) F n nl b 0 y c p
  have g0 := byteAt_ok hb i
  have g1 := byteAt_ok hb (i + 1)
  rw [callP_run (fn := Tryd.f98) rfl rfl rfl (by simp [Tryd.ntmps98])]
  generalize hC : (envG G).ctx 98 (callN (envG G) F (n+1)) (callP (envG G) F (n+1)) = C
  have htt : C.tt = (envG G).tt := by rw [← hC]; rfl
  have hlin : C.lin = [] := by rw [← hC]; rfl
  have hreg : C.reg = reg98 := by rw [← hC]; rfl
  have hcall : C.call = callN (envG G) F (n+1) := by rw [← hC]; rfl
  have hcallP : C.callP = callP (envG G) F (n+1) := by rw [← hC]; rfl
  have hlv_16 : C.live 16 = [0, 1, 9, 10, 11] := by rw [← hC]; rfl
  have hlv_100016 : C.live 100016 = [0, 1, 6, 7, 9, 10] := by rw [← hC]; rfl
  have hL := fun q hq hin u j k st => loop_rlen (G := G) hC rfl b i q hb hq hi hin nl 0 y u j k st
  clear hC
  unfold rdr at ks hL ⊢
  have e1 : (i : Int) + 1 ≤ 9223372036854775807 := by omega
  have e2 : (-9223372036854775808 : Int) ≤ (i : Int) + 1 := by omega
  by_cases c1 : stop ≤ i
  · have hsp : lenB b i stop = .bad 6 i := by simp [lenB, c1]
    have f1 : (stop : Int) ≤ (i : Int) := by omega
    rw [hsp]
    simp [htt, hlin, hreg, reg98, hcall, hcallP, hlv_16, hlv_100016, ks, f1, rlenV, rdr]
  · have f1 : ¬ (stop : Int) ≤ (i : Int) := by omega
    have r0 := byteAt_get (b := b) (i := i) (by omega)
    have e7 : byteAt b i ≤ 9223372036854775807 := by omega
    have e8 : (-9223372036854775808 : Int) ≤ byteAt b i := by omega
    by_cases c2 : byteAt b i < 128
    · have hsp : lenB b i stop = .ok ((byteAt b i).toNat, i + 1) := by simp [lenB, c1, c2]
      have e9 : ((byteAt b i).toNat : Int) = byteAt b i := by omega
      rw [hsp]
      simp only [rlenV, rdr, Int.natCast_add, e9]
      simp [htt, hlin, hreg, reg98, hcall, hcallP, hlv_16, hlv_100016, ks, f1, r0, e1, e2, e7, e8, c2]
    · by_cases c3 : byteAt b i = 128 ∨ 131 < byteAt b i
      · have hsp : lenB b i stop = .bad 7 i := by simp [lenB, c1, c2, c3]
        rw [hsp]
        generalize byteAt b i = v at *
        by_cases f2 : v = 128
        · subst f2
          simp [htt, hlin, hreg, reg98, hcall, hcallP, hlv_16, hlv_100016, ks, f1, r0, e1, e2, e7, e8, rlenV, rdr]
        · have f3 : 131 < v := by omega
          simp [htt, hlin, hreg, reg98, hcall, hcallP, hlv_16, hlv_100016, ks, f1, r0, e1, e2, e7, e8, c2, f2, f3, rlenV, rdr]
      · obtain ⟨q, hq0, hq3, hqv⟩ : ∃ q : Nat, 1 ≤ q ∧ q ≤ 3 ∧ byteAt b i = 128 + q := ⟨(byteAt b i - 128).toNat, by omega, by omega, by omega⟩
        have hq : (byteAt b i - 128).toNat = q := by omega
        have f0 : ¬ (128 + (q : Int) < 128) := by omega
        have f2 : ¬ (128 + (q : Int) = 128) := by omega
        have f3 : ¬ (131 < 128 + (q : Int)) := by omega
        have f6 : 128 + (q : Int) - 128 = q := by omega
        have e5 : 128 + (q : Int) ≤ 9223372036854775807 := by omega
        have e6 : (-9223372036854775808 : Int) ≤ 128 + (q : Int) := by omega
        have e9 : (q : Int) ≤ 9223372036854775807 := by omega
        have e10 : (-9223372036854775808 : Int) ≤ (q : Int) := by omega
        have e11 : (i : Int) + 1 + q ≤ 9223372036854775807 := by omega
        have e12 : (-9223372036854775808 : Int) ≤ (i : Int) + 1 + q := by omega
        by_cases c4 : stop < i + 1 + q
        · have hsp : lenB b i stop = .bad 6 i := by simp [lenB, c1, c2, c3, hq, c4]
          have f5 : (stop : Int) < (i : Int) + 1 + q := by omega
          rw [hsp]
          rw [hqv] at r0
          simp [htt, hlin, hreg, reg98, hcall, hcallP, hlv_16, hlv_100016, ks, f1, r0, e1, e2, e5, e6, e9, e10, e11, e12, f0, f2, f3, f5, f6, rlenV, rdr]
        · have f5 : ¬ (stop : Int) < (i : Int) + 1 + q := by omega
          have r1 := byteAt_get (b := b) (i := i + 1) (by omega)
          have hv := beN_ok hb (i + 1) q
          have f9 : (0 : Int) ≤ (i : Int) + 1 := by omega
          have n1 : ((i : Int) + 1).toNat = i + 1 := by omega
          have hL1 := fun st h => hL q hq3 (by omega) q 0 F st (by omega) (by omega) h
          have spc : lenB b i stop = if byteAt b (i + 1) = 0 ∨ beN b (i + 1) q < 128 then .bad 7 i else .ok ((beN b (i + 1) q).toNat, i + 1 + q) := by
            simp only [lenB, if_neg c1, if_neg c2, if_neg c3, hq, if_neg c4]
          rw [spc]
          rw [hqv] at r0
          clear spc hqv hq c2 c3 e7 e8 g0
          simp only [beN] at hL1
          simp at hL1
          generalize beN b (i + 1) q = v at *
          generalize byteAt b (i + 1) = x at *
          simp [htt, hlin, hreg, reg98, hcall, hcallP, hlv_16, hlv_100016, ks, f1, r0, e1, e2, e5, e6, e9, e10, e11, e12, f0, f2, f3, f5, f6, f9, n1, ev_loop]
          rw [hL1 _ (by simp)]
          by_cases c5 : x = 0
          · simp [htt, hlin, hreg, reg98, hcall, hcallP, hlv_16, hlv_100016, ks, r1, n1, f9, e1, e2, c5, rlenV, rdr]
          · by_cases c6 : v < 128
            · simp [htt, hlin, hreg, reg98, hcall, hcallP, hlv_16, hlv_100016, ks, r1, n1, f9, e1, e2, c5, c6, rlenV, rdr]
            · have e19 : (v.toNat : Int) = v := by omega
              simp [htt, hlin, hreg, reg98, hcall, hcallP, hlv_16, hlv_100016, ks, r1, n1, f9, e1, e2, c5, c6, e11, e12, e19, rlenV, rdr]
end Go.Proofs.YtjmcgdhekjkjfaaDoor
