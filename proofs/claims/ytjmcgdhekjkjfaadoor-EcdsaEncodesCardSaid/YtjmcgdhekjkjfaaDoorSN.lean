/- What the reference's Reader.element hands back. -/
import Derived.Test.YtjmcgdhekjkjfaaDoorSM
import Derived.Test.YtjmcgdhekjkjfaaDoorSH
import Derived.Test.YtjmcgdhekjkjfaaDoorSK
import Derived.Test.YtjmcgdhekjkjfaaDoorSG
import Derived.Test.YtjmcgdhekjkjfaaDoorRows
import Derived.WalkKit
import Derived.ProofKit
import Derived.OpenShut
import Derived.ShutString
import Derived.ChangeOld
import Derived.ChangeSame
import Derived.ChangeVars
import Derived.JoinedOf
import Derived.Below
import Derived.SizedLaws
import Derived.LaidLaws
import Derived.LaidHandle
import Derived.Stop.Joined
import Derived.Test.YtjmcgdhekjkjfaaDoorSC
import Derived.Test.YtjmcgdhekjkjfaaDoorSL
import Derived.Test.YtjmcgdhekjkjfaaDoorVMU
import Derived.Lay
set_option linter.unusedSimpArgs false
set_option linter.unusedVariables false
namespace Go.Proofs.YtjmcgdhekjkjfaaDoor
open Go Go.VM
variable {G : GE}
set_option maxRecDepth 100000
set_option maxHeartbeats 4000000
theorem t_relem (F : Nat) (hF : 1048580 < F) (b : List Int) (nl : Bool) (hnl : nl = true → b = []) (hb : ∀ c ∈ b, 0 ≤ c ∧ c < 256) (hlen : b.length ≤ 1048576) (y : Int) :
    ∀ (d e n i stop : Nat), d + e = 16 → stop ≤ b.length → i ≤ stop →
    match elemB b d i stop with
    | .ok (x, nx) => callP (envG G) F (n + d + 3) 58 [.ptr 0 0, .d (.int .i64 i), .d (.int .i64 stop), .d (.int .i64 e)] [rdr nl b 0 y] [] = some ⟨[.d (.agg x.cells), .d (.int .i64 nx)], [], [rdr nl b 0 y], []⟩
    | .bad c p => ∃ x : Tlv, callP (envG G) F (n + d + 3) 58 [.ptr 0 0, .d (.int .i64 i), .d (.int .i64 stop), .d (.int .i64 e)] [rdr nl b 0 y] [] = some ⟨[.d (.agg x.cells), .d (.int .i64 0)], [], [rdr nl b c p], []⟩ := by
  intro d
  induction d with
  | zero =>
    intro e n i stop he hs hi
    have ks : ∀ c p, callP (envG G) F (n + 2) _ _ _ _ = _ := fun c p => t_rfail (G := G) F (n + 1) nl b 0 y c p
    simp only [elemB]
    rw [show n + 0 + 3 = n + 2 + 1 by omega]
    rw [callP_run (fn := Tryd.f58) rfl rfl rfl (by simp [Tryd.ntmps58])]
    generalize hC : (envG G).ctx 58 (callN (envG G) F (n+2)) (callP (envG G) F (n+2)) = C
    have htt : C.tt = (envG G).tt := by rw [← hC]; rfl
    have hlin : C.lin = [115, 52, 16, 13, 128, 99, 14, 130, 98, 9, 83, 123] := by rw [← hC]; rfl
    have hreg : C.reg = reg58 := by rw [← hC]; rfl
    have hcall : C.call = callN (envG G) F (n+2) := by rw [← hC]; rfl
    have hcallP : C.callP = callP (envG G) F (n+2) := by rw [← hC]; rfl
    have hlv_25 : C.live 25 = [0, 3, 8, 10, 12, 13, 14] := by rw [← hC]; rfl
    have hlv_100025 : C.live 100025 = [8, 9, 10, 14] := by rw [← hC]; rfl
    unfold rdr at ks ⊢
    have h1 : (16 : Int) ≤ (e : Int) := by omega
    refine ⟨zeroT, ?_⟩
    simp only [zeroT, Tlv.cells, Tlv.cellsL]
    simp [htt, hlin, hreg, reg58, hcall, hcallP, hlv_25, hlv_100025, ks, h1]
  | succ d ih =>
    intro e n i stop he hs hi
    have ks : ∀ c p, callP (envG G) F (n + d + 3) _ _ _ _ = _ := fun c p => t_rfail (G := G) F (n + d + 2) nl b 0 y c p
    have kl : callP (envG G) F (n + d + 3) _ _ _ _ = _ := t_rlength (G := G) F (n + d + 1) (by omega) b nl hb hlen (i + 1) stop hs (by omega) y
    rw [show ((i + 1 : Nat) : Int) = (i : Int) + 1 by omega] at kl
    have g0 := byteAt_ok hb i
    rw [show n + (d + 1) + 3 = n + d + 3 + 1 by omega]
    rw [callP_run (fn := Tryd.f58) rfl rfl rfl (by simp [Tryd.ntmps58])]
    generalize hC : (envG G).ctx 58 (callN (envG G) F (n+d+3)) (callP (envG G) F (n+d+3)) = C
    have htt : C.tt = (envG G).tt := by rw [← hC]; rfl
    have hlin : C.lin = [115, 52, 16, 13, 128, 99, 14, 130, 98, 9, 83, 123] := by rw [← hC]; rfl
    have hreg : C.reg = reg58 := by rw [← hC]; rfl
    have hcall : C.call = callN (envG G) F (n+d+3) := by rw [← hC]; rfl
    have hcallP : C.callP = callP (envG G) F (n+d+3) := by rw [← hC]; rfl
    have hlv_25 : C.live 25 = [0, 3, 8, 10, 12, 13, 14] := by rw [← hC]; rfl
    have hlv_100025 : C.live 100025 = [8, 9, 10, 14] := by rw [← hC]; rfl
    have h1 : ¬ (16 : Int) ≤ (e : Int) := by omega
    have e1 : (i : Int) + 1 ≤ 9223372036854775807 := by omega
    have e2 : (-9223372036854775808 : Int) ≤ (i : Int) + 1 := by omega
    simp only [elemB]
    by_cases c1 : stop ≤ i
    · have f1 : (stop : Int) ≤ (i : Int) := by omega
      rw [if_pos c1]
      refine ⟨zeroT, ?_⟩
      unfold rdr at ks ⊢
      simp only [zeroT, Tlv.cells, Tlv.cellsL]
      simp [htt, hlin, hreg, reg58, hcall, hcallP, hlv_25, hlv_100025, ks, h1, f1]
    · have f1 : ¬ (stop : Int) ≤ (i : Int) := by omega
      have r0 := byteAt_get (b := b) (i := i) (by omega)
      have hnf : nl = false := by
        cases nl with
        | false => rfl
        | true => rw [hnl rfl] at hs; simp at hs; omega
      rw [if_neg c1]
      have e11 : byteAt b i ≤ 9223372036854775807 := by omega
      have e12 : (-9223372036854775808 : Int) ≤ byteAt b i := by omega
      have t1 : (byteAt b i).tmod 32 = byteAt b i % 32 := Int.tmod_eq_emod_of_nonneg g0.1
      have t2 : (byteAt b i).tdiv 64 = byteAt b i / 64 := Int.tdiv_eq_ediv_of_nonneg g0.1
      have t3 : (byteAt b i).tdiv 32 = byteAt b i / 32 := Int.tdiv_eq_ediv_of_nonneg g0.1
      have t4 : (byteAt b i / 32).tmod 2 = byteAt b i / 32 % 2 := Int.tmod_eq_emod_of_nonneg (by omega)
      have e5 : byteAt b i / 64 ≤ 9223372036854775807 := by omega
      have e6 : (-9223372036854775808 : Int) ≤ byteAt b i / 64 := by omega
      have e7 : byteAt b i % 32 ≤ 9223372036854775807 := by omega
      have e8 : (-9223372036854775808 : Int) ≤ byteAt b i % 32 := by omega
      have e9 : byteAt b i / 32 ≤ 9223372036854775807 := by omega
      have e10 : (-9223372036854775808 : Int) ≤ byteAt b i / 32 := by omega
      have e13 : byteAt b i / 32 % 2 ≤ 9223372036854775807 := by omega
      have e14 : (-9223372036854775808 : Int) ≤ byteAt b i / 32 % 2 := by omega
      by_cases c2 : byteAt b i % 32 = 31
      · rw [if_pos c2]
        refine ⟨zeroT, ?_⟩
        unfold rdr at ks ⊢
        simp only [zeroT, Tlv.cells, Tlv.cellsL]
        simp [htt, hlin, hreg, reg58, hcall, hcallP, hlv_25, hlv_100025, ks, h1, f1, r0, e7, e8, e11, e12, t1, c2]
      · rw [if_neg c2]
        simp only [spanB]
        generalize hsp : lenB b (i + 1) stop = sp at *
        cases sp with
        | bad c p =>
          have hcp : ¬ c = 0 := by
            have := @elemB_place b (d + 1) i stop c p (by simp only [elemB, if_neg c1, if_neg c2, spanB, hsp])
            omega
          simp only [rlenV] at kl
          simp only
          refine ⟨zeroT, ?_⟩
          unfold rdr at ks kl ⊢
          simp only [zeroT, Tlv.cells, Tlv.cellsL]
          simp [htt, hlin, hreg, reg58, hcall, hcallP, hlv_25, hlv_100025, ks, h1, f1, r0, e1, e2, e7, e8, e11, e12, t1, c2, kl, hcp]
        | ok ft =>
          obtain ⟨v, fr⟩ := ft
          have hp := lenB_ok hb hs hsp
          simp only [rlenV] at kl
          simp only
          have e15 : (fr : Int) + v ≤ 9223372036854775807 := by omega
          have e16 : (-9223372036854775808 : Int) ≤ (fr : Int) + v := by omega
          by_cases c4 : stop < fr + v
          · have f4 : (stop : Int) < (fr : Int) + v := by omega
            rw [if_pos c4]
            simp only
            refine ⟨zeroT, ?_⟩
            unfold rdr at ks kl ⊢
            simp only [zeroT, Tlv.cells, Tlv.cellsL, Int.natCast_add, Int.cast_ofNat_Int]
            simp [htt, hlin, hreg, reg58, hcall, hcallP, hlv_25, hlv_100025, ks, h1, f1, f4, r0, e1, e2, e7, e8, e11, e12, e15, e16, t1, c2, kl]
          · have f4 : ¬ (stop : Int) < (fr : Int) + v := by omega
            rw [if_neg c4]
            simp only
            by_cases c3 : byteAt b i / 32 % 2 = 1
            case neg =>
              rw [if_neg c3]
              have f2 : (fr : Int) ≤ (fr : Int) + v := by omega
              have f3 : (fr : Int) + v ≤ b.length := by omega
              have n1 : ((fr : Int) + v).toNat = fr + v := by omega
              have hll : ((b.take (fr + v)).drop fr).length ≤ 140737488355327 := by simp; omega
              have hdt : (b.take (fr + v)).drop fr = (b.drop fr).take (fr + v - fr) := by rw [List.drop_take]
              rw [← hdt]
              generalize hus : (b.take (fr + v)).drop fr = us at *
              have hll2 : us.length ≤ 140737488355328 := by omega
              subst hnf
              unfold rdr at ks kl ⊢
              simp only [Tlv.cells, Tlv.cellsL, Int.natCast_add]
              simp [htt, hlin, hreg, reg58, hcall, hcallP, hlv_25, hlv_100025, ks, h1, f1, f2, f3, f4, n1, r0, e1, e2, e5, e6, e7, e8, e9, e10, e11, e12, e13, e14, e15, e16, t1, t2, t3, t4, c2, c3, kl, hus, hll, hll2]
            case pos =>
              rw [if_pos c3]
              have hL := fun st h => loop_relem (G := G) hC rfl b nl e v fr (fr + v) y (by omega) (by omega) rfl (elemB b d) (fun fr2 hfr => by
                  have := ih (e + 1) n fr2 (fr + v) (by omega) (by omega) hfr
                  rw [show ((e + 1 : Nat) : Int) = (e : Int) + 1 by omega] at this
                  exact this)
                (fun fr2 x nx h => by have := elemB_ok hb d fr2 (fr + v) x nx (by omega) h; exact ⟨by have := this.lo; omega, this.hi⟩)
                (fun fr2 c p h => (elemB_place h).2.1)
                (byteAt b i / 64) (byteAt b i % 32) true (fr + v - fr) fr F [] st (by omega) (by omega) (by omega) (by simp; omega) h
              generalize kidsB (elemB b d) (fr + v - fr) fr (fr + v) = kr at *
              clear hC ih
              cases kr with
              | ok l =>
                simp [Tlv.cellsL] at hL
                simp only [Tlv.cells]
                unfold rdr at ks kl hL ⊢
                simp [htt, hlin, hreg, reg58, hcall, hcallP, hlv_25, hlv_100025, ks, h1, f1, f4, r0, e1, e2, e5, e6, e7, e8, e9, e10, e11, e12, e13, e14, e15, e16, t1, t2, t3, t4, c2, c3, kl, ev_loop]
                rw [hL _ (by simp [Tlv.cellsL])]
                simp [htt, hlin, hreg, reg58, hcall, hcallP, hlv_25, hlv_100025]
              | bad c p =>
                simp only at hL
                have hL2 := fun st h => Classical.choose_spec (Classical.choose_spec (hL st h))
                simp only at hL2 ⊢
                unfold rdr at ks kl hL2 ⊢
                simp [htt, hlin, hreg, reg58, hcall, hcallP, hlv_25, hlv_100025, ks, h1, f1, f4, r0, e1, e2, e5, e6, e7, e8, e9, e10, e11, e12, e13, e14, e15, e16, t1, t2, t3, t4, c2, c3, kl, ev_loop]
                apply Exists.intro
                rw [(hL2 _ (by simp [Tlv.cellsL])).1]
                exact (hL2 _ (by simp [Tlv.cellsL])).2
end Go.Proofs.YtjmcgdhekjkjfaaDoor
set_option linter.unusedSimpArgs false
set_option linter.unusedVariables false
namespace Go.Proofs.YtjmcgdhekjkjfaaDoor
open Go Go.VM
variable {G : GE}
set_option maxRecDepth 100000
set_option maxHeartbeats 4000000
def rparseV : Res Tlv → List V
  | .ok x => [.d (.agg x.cells), .d (.int .i64 0), .d (.int .i64 (-1))]
  | .bad c p => [.d (.agg zeroT.cells), .d (.int .i64 c), .d (.int .i64 p)]
theorem t_rParse (F : Nat) (hF : 1048580 < F) (n : Nat) (b : List Int) (nl : Bool) (hnl : nl = true → b = []) (hb : ∀ c ∈ b, 0 ≤ c ∧ c < 256) :
    callN (envG G) F (n + 20) 13 [.d (.nums .u8 nl b)] = some ⟨rparseV (parseB b), []⟩ := by
  have ke := fun (h : b.length ≤ 1048576) => t_relem (G := G) F hF b nl hnl hb h 0 16 0 n 0 b.length (by omega) (by omega) (by omega)
  have kp := @elemB_place b 16 0 b.length
  have ko := fun x e => elemB_ok hb 16 0 b.length x e (Nat.le_refl _)
  rw [callN_run (fn := Tryd.f13) rfl rfl rfl (by simp [Tryd.ntmps13])]
  generalize hC : (envG G).ctx 13 (callN (envG G) F (n+19)) (callP (envG G) F (n+19)) = C
  have htt : C.tt = (envG G).tt := by rw [← hC]; rfl
  have hlin : C.lin = [] := by rw [← hC]; rfl
  have hreg : C.reg = reg13 := by rw [← hC]; rfl
  have hcall : C.call = callN (envG G) F (n+19) := by rw [← hC]; rfl
  have hcallP : C.callP = callP (envG G) F (n+19) := by rw [← hC]; rfl
  have hlv_200006 : C.live 200006 = [4, 8, 9] := by rw [← hC]; rfl
  have hlv_250006 : C.live 250006 = [] := by rw [← hC]; rfl
  have hlv_300006 : C.live 300006 = [2] := by rw [← hC]; rfl
  unfold parseB
  by_cases c1 : 1048576 < b.length
  · have f1 : (1048576 : Int) < b.length := by omega
    simp only [if_pos c1, rparseV, zeroT, Tlv.cells, Tlv.cellsL]
    simp [htt, hlin, hreg, reg13, hcall, hcallP, hlv_200006, hlv_250006, hlv_300006, f1]
  · have f1 : ¬ (1048576 : Int) < b.length := by omega
    have ke' := ke (by omega)
    clear ke
    rw [if_neg c1]
    unfold rdr at ke'
    generalize elemB b 16 0 b.length = r at *
    cases r with
    | bad c p =>
      have hp := kp rfl
      have hc : ¬ c = 0 := by omega
      simp only at ke'
      obtain ⟨x, ke'⟩ := ke'
      simp only [rparseV, zeroT, Tlv.cells, Tlv.cellsL]
      obtain ⟨xc, xt, xm, xbn, xb, xkn, xks⟩ := x
      simp only [Tlv.cells] at ke'
      simp at ke'
      cases xkn <;> cases xbn <;>
      simp [htt, hlin, hreg, reg13, hcall, hcallP, hlv_200006, hlv_250006, hlv_300006, f1, ke', hc]
    | ok r =>
      obtain ⟨x, e⟩ := r
      have hx := ko x e rfl
      have hh := hx.hi
      clear ko kp hx
      obtain ⟨xc, xt, xm, xbn, xb, xkn, xks⟩ := x
      simp only [Tlv.cells] at ke'
      simp at ke'
      by_cases c2 : e < b.length
      · have f2 : (e : Int) < b.length := by omega
        simp only [if_pos c2, rparseV, zeroT, Tlv.cells, Tlv.cellsL]
        cases xkn <;> cases xbn <;>
        simp [htt, hlin, hreg, reg13, hcall, hcallP, hlv_200006, hlv_250006, hlv_300006, f1, ke', f2]
      · have f2 : ¬ (e : Int) < b.length := by omega
        simp only [if_neg c2, rparseV, Tlv.cells]
        cases xkn <;> cases xbn <;>
        simp [htt, hlin, hreg, reg13, hcall, hcallP, hlv_200006, hlv_250006, hlv_300006, f1, ke', f2]
end Go.Proofs.YtjmcgdhekjkjfaaDoor
set_option linter.unusedSimpArgs false
set_option linter.unusedVariables false
namespace Go.Proofs.YtjmcgdhekjkjfaaDoor
open Go Go.VM
set_option maxRecDepth 100000
set_option maxHeartbeats 8000000
theorem n_bits : SubB gEn := fun _ => rfl
theorem n_group : GroupG gEn := rfl
theorem n_sub : SubK gEn := fun F n a0 a1 a2 a3 a4 a5 b0 b1 b2 b3 b4 b5 hF => t_lSub (G := gEn) n_bits (fun _ => rfl) F n hF a0 a1 a2 a3 a4 a5 b0 b1 b2 b3 b4 b5
theorem n_law (F : Nat) (hF : 1048580 < F) (hF2 : F ≤ 140737488355328) (n : Nat) (a0 a1 a2 a3 a4 a5 b0 b1 b2 b3 b4 b5 : Int) (ha : In64 [a0, a1, a2, a3, a4, a5]) (hb : In64 [b0, b1, b2, b3, b4, b5]) :
    callN (envG gEn) F (n + 90) 8 [.d (sigD [a0, a1, a2, a3, a4, a5] [b0, b1, b2, b3, b4, b5])] = some ⟨[.d (.bool true)], []⟩ := by
  have hu : callN (envG gEn) F (n + 89) _ _ = _ := up14 F (n + 72) (by omega)
  have hE := t_eEncode (G := gEn) n_sub n_group F hF hF2 (n + 19) a0 a1 a2 a3 a4 a5 b0 b1 b2 b3 b4 b5 ha hb
  have hE : callN (envG gEn) F (n + 89) _ _ = _ := hE
  have s1 : callN (envG gEn) F (n + 89) _ _ = _ := t_lScalar (G := gEn) F (n + 85) (by omega) a0 a1 a2 a3 a4 a5 ha
  have s2 : callN (envG gEn) F (n + 89) _ _ = _ := t_lScalar (G := gEn) F (n + 85) (by omega) b0 b1 b2 b3 b4 b5 hb
  have o1 : callN (envG gEn) F (n + 89) _ _ = _ := t_Of6 (G := gEn) F (n + 86) (by omega) a0 a1 a2 a3 a4 a5 ha
  have o2 : callN (envG gEn) F (n + 89) _ _ = _ := t_Of6 (G := gEn) F (n + 86) (by omega) b0 b1 b2 b3 b4 b5 hb
  have y1 : callN (envG gEn) F (n + 89) _ _ = _ := t_rBytes (G := gEn) F (n + 86) (by omega) ha rfl
  have y2 : callN (envG gEn) F (n + 89) _ _ = _ := t_rBytes (G := gEn) F (n + 86) (by omega) hb rfl
  have m1 : callN (envG gEn) F (n + 89) _ _ = _ := t_rNumberOf (G := gEn) F (n + 88) false (B6 [a0, a1, a2, a3, a4, a5]) (by rw [B6_len]; omega) (by rw [B6_len]; omega)
  have m2 : callN (envG gEn) F (n + 89) _ _ = _ := t_rNumberOf (G := gEn) F (n + 88) false (B6 [b0, b1, b2, b3, b4, b5]) (by rw [B6_len]; omega) (by rw [B6_len]; omega)
  rw [numberOf_B6] at m1 m2
  simp only at m1 m2
  obtain ⟨t1, t2, t3, t4⟩ := sigT_ok ha hb
  have hw := weight_width (W := 1048576) (sigT [a0, a1, a2, a3, a4, a5] [b0, b1, b2, b3, b4, b5]) (by omega)
  have hle := enc_le (sigT [a0, a1, a2, a3, a4, a5] [b0, b1, b2, b3, b4, b5])
  have hbw : badW (sigT [a0, a1, a2, a3, a4, a5] [b0, b1, b2, b3, b4, b5]) = 0 := by
    unfold badW
    rw [if_neg (by simp [t1]), if_neg (by omega), if_neg (by omega)]
  have w1 : callN (envG gEn) F (n + 89) _ _ = _ := t_rWrite (G := gEn) F hF2 1048576 (by omega) 16 (n + 72) (sigT [a0, a1, a2, a3, a4, a5] [b0, b1, b2, b3, b4, b5]) (by omega) t2 hw (by omega)
  rw [hbw] at w1
  simp only [if_true] at w1
  have he : (sigT [a0, a1, a2, a3, a4, a5] [b0, b1, b2, b3, b4, b5]).enc.length ≤ 140737488355328 := by omega
  have d1 : callN (envG gEn) F (n + 89) _ _ = _ := t_eDecode (G := gEn) n_sub n_group F hF (n + 59) (sigT [a0, a1, a2, a3, a4, a5] [b0, b1, b2, b3, b4, b5]).enc false (by simp) (enc_bytes _ t1 t4 (by omega))
  rw [parseB_enc t1 t2 (by omega)] at d1
  have hback := fun h1 h2 => sigT_back ha hb rfl rfl h1 h2
  simp only [sigV] at d1
  clear t1 t2 t3 t4 hw hle hbw
  generalize (sigT [a0, a1, a2, a3, a4, a5] [b0, b1, b2, b3, b4, b5]).enc = en at *
  generalize sigOf (sigT [a0, a1, a2, a3, a4, a5] [b0, b1, b2, b3, b4, b5]).norm = sg at *
  clear ha hb
  simp only [sigT, nT, Tlv.cells, Tlv.cellsL] at w1
  generalize bodyN [a0, a1, a2, a3, a4, a5] = u at *
  generalize bodyN [b0, b1, b2, b3, b4, b5] = w at *
  generalize isScalar [a0, a1, a2, a3, a4, a5] = sa at *
  generalize isScalar [b0, b1, b2, b3, b4, b5] = sb at *
  generalize trimL (halves [a0, a1, a2, a3, a4, a5]) = h1 at *
  generalize trimL (halves [b0, b1, b2, b3, b4, b5]) = h2 at *
  generalize B6 [a0, a1, a2, a3, a4, a5] = q1 at *
  generalize B6 [b0, b1, b2, b3, b4, b5] = q2 at *
  simp only [limbD, sigD, List.map, List.cons_append, List.nil_append] at *
  cases sa
  · unfold err at hE
    simp at hE
    rw [callN_run (fn := Tryd.f8) rfl rfl rfl (by simp [Tryd.ntmps8])]
    generalize hC : (envG gEn).ctx 8 (callN (envG gEn) F (n+89)) (callP (envG gEn) F (n+89)) = C
    have htt : C.tt = (envG gEn).tt := by rw [← hC]; rfl
    have hlin : C.lin = [] := by rw [← hC]; rfl
    have hreg : C.reg = reg8 := by rw [← hC]; rfl
    have hcall : C.call = callN (envG gEn) F (n+89) := by rw [← hC]; rfl
    have hcallP : C.callP = callP (envG gEn) F (n+89) := by rw [← hC]; rfl
    clear hC
    simp [htt, hlin, hreg, reg8, hcall, hcallP, hu, hE, s1]
  · cases sb
    · unfold err at hE
      simp at hE
      rw [callN_run (fn := Tryd.f8) rfl rfl rfl (by simp [Tryd.ntmps8])]
      generalize hC : (envG gEn).ctx 8 (callN (envG gEn) F (n+89)) (callP (envG gEn) F (n+89)) = C
      have htt : C.tt = (envG gEn).tt := by rw [← hC]; rfl
      have hlin : C.lin = [] := by rw [← hC]; rfl
      have hreg : C.reg = reg8 := by rw [← hC]; rfl
      have hcall : C.call = callN (envG gEn) F (n+89) := by rw [← hC]; rfl
      have hcallP : C.callP = callP (envG gEn) F (n+89) := by rw [← hC]; rfl
      clear hC
      simp [htt, hlin, hreg, reg8, hcall, hcallP, hu, hE, s1, s2]
    · have hb := hback rfl rfl
      subst hb
      simp only [sigD, List.map, List.cons_append, List.nil_append] at d1
      simp at hE
      rw [callN_run (fn := Tryd.f8) rfl rfl rfl (by simp [Tryd.ntmps8])]
      generalize hC : (envG gEn).ctx 8 (callN (envG gEn) F (n+89)) (callP (envG gEn) F (n+89)) = C
      have htt : C.tt = (envG gEn).tt := by rw [← hC]; rfl
      have hlin : C.lin = [] := by rw [← hC]; rfl
      have hreg : C.reg = reg8 := by rw [← hC]; rfl
      have hcall : C.call = callN (envG gEn) F (n+89) := by rw [← hC]; rfl
      have hcallP : C.callP = callP (envG gEn) F (n+89) := by rw [← hC]; rfl
      clear hC
      simp [htt, hlin, hreg, reg8, hcall, hcallP, hu, hE, s1, s2, o1, o2, y1, y2, m1, m2, w1, d1, he, bin_eq_agg, (sig_eq (G := gEn))]
end Go.Proofs.YtjmcgdhekjkjfaaDoor
namespace Go.Proofs.YtjmcgdhekjkjfaaDoor
open Go.ChangeShapes Go.WideShapes Go.ChangeAt Go.RowKit Go.VM
set_option linter.unusedVariables false
theorem ownF : ownKnob Tryd.prog.godebug = none := by kernel_rfl
theorem laidOutF : laidOutB Tryd.prog = true := by kernel_rfl
theorem gEn_ok : EnvOk Tryd.prog (envG gEn) := envOk gEn (fun f args r h => by
  simp only [gEn, extE] at h
  split at h
  · rename_i hf
    have hf := Nat.eq_of_beq_eq_true hf
    subst hf
    exact add_sound args r h
  · split at h
    · rename_i hf
      have hf := Nat.eq_of_beq_eq_true hf
      subst hf
      exact sub_sound args r h
    · cases h)
def ecData {H : Type} : List (String × DataW H) := [("escutcheon/field.prime", Rows.laid_escutcheon_field_prime), ("escutcheon/order.group", Rows.laid_escutcheon_order_group), ("escutcheon/proj.prime", Rows.laid_escutcheon_proj_prime), ("escutcheon/proj.curveB", Rows.laid_escutcheon_proj_curveB), ("escutcheon/proj.one", Rows.laid_escutcheon_proj_one), ("escutcheon/curve.base", Rows.laid_escutcheon_curve_base)]
theorem rep_data {W : World} (h : laidMet Tryd.prog ecData W) : ∀ g cs, dataE g = some cs → RepC W noOwn g 0 cs := by
  intro g cs hg
  unfold dataE at hg
  split at hg
  · rename_i hb
    have hb := Nat.eq_of_beq_eq_true hb
    subst hb; cases hg
    exact rep_laid h (n := "escutcheon/order.group") (d := Rows.laid_escutcheon_order_group) (by simp [ecData]) (by kernel_rfl) (t := 146) (by kernel_rfl) (m := 9) (k := 9) (by kernel_rfl) (by kernel_rfl) (by kernel_rfl)
  split at hg
  · rename_i hb
    have hb := Nat.eq_of_beq_eq_true hb
    subst hb; cases hg
    exact rep_laid h (n := "escutcheon/field.prime") (d := Rows.laid_escutcheon_field_prime) (by simp [ecData]) (by kernel_rfl) (t := 146) (by kernel_rfl) (m := 9) (k := 9) (by kernel_rfl) (by kernel_rfl) (by kernel_rfl)
  split at hg
  · rename_i hb
    have hb := Nat.eq_of_beq_eq_true hb
    subst hb; cases hg
    exact rep_laid h (n := "escutcheon/proj.prime") (d := Rows.laid_escutcheon_proj_prime) (by simp [ecData]) (by kernel_rfl) (t := 146) (by kernel_rfl) (m := 9) (k := 9) (by kernel_rfl) (by kernel_rfl) (by kernel_rfl)
  split at hg
  · rename_i hb
    have hb := Nat.eq_of_beq_eq_true hb
    subst hb; cases hg
    exact rep_laid h (n := "escutcheon/proj.curveB") (d := Rows.laid_escutcheon_proj_curveB) (by simp [ecData]) (by kernel_rfl) (t := 64) (by kernel_rfl) (m := 9) (k := 9) (by kernel_rfl) (by kernel_rfl) (by kernel_rfl)
  split at hg
  · rename_i hb
    have hb := Nat.eq_of_beq_eq_true hb
    subst hb; cases hg
    exact rep_laid h (n := "escutcheon/proj.one") (d := Rows.laid_escutcheon_proj_one) (by simp [ecData]) (by kernel_rfl) (t := 64) (by kernel_rfl) (m := 9) (k := 9) (by kernel_rfl) (by kernel_rfl) (by kernel_rfl)
  split at hg
  · rename_i hb
    have hb := Nat.eq_of_beq_eq_true hb
    subst hb; cases hg
    exact rep_laid h (n := "escutcheon/curve.base") (d := Rows.laid_escutcheon_curve_base) (by simp [ecData]) (by kernel_rfl) (t := 90) (by kernel_rfl) (m := 9) (k := 9) (by kernel_rfl) (by kernel_rfl) (by kernel_rfl)
  · cases hg
theorem rep_en {W : World} (h : laidMetH Tryd.prog ecData W) : ∀ g cs, gEn.glob g = some cs → RepC W noOwn g 0 cs := by
  have h' : laidMet Tryd.prog ecData W := h
  exact rep_data h'
noncomputable def enWorld (os : Os) : World := (World.holding Tryd.prog os ⟨#[], #[], []⟩).layVars Tryd.prog ecData
theorem enWorld_met (os : Os) (args : Array Value) : laidMetH Tryd.prog ecData ((enWorld os).forCall (fun _ _ => 0) ⟨#[], args, []⟩).memory :=
  laidMetH_of_parts (laidMet_of_run' 12 (by kernel_rfl) (by kernel_rfl)) (by kernel_rfl)
end Go.Proofs.YtjmcgdhekjkjfaaDoor
