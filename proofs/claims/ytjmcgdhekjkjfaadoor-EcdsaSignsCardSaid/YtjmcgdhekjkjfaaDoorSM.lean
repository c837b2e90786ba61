/- The loop of the reference's Reader.element. -/
import Derived.Test.YtjmcgdhekjkjfaaDoorSL
import Derived.Test.YtjmcgdhekjkjfaaDoorSC
import Derived.Test.YtjmcgdhekjkjfaaDoorVMU
import Derived.Test.YtjmcgdhekjkjfaaDoorSG
import Derived.Test.YtjmcgdhekjkjfaaDoorVMS
import Derived.Test.YtjmcgdhekjkjfaaDoorRows
import Derived.WalkKit
import Derived.ProofKit
import Derived.OpenShut
import Derived.ShutString
import Derived.ChangeOld
import Derived.ChangeSame
import Derived.ChangeVars
import Derived.JoinedOf
import Derived.Below
import Derived.SizedLaws
import Derived.LaidLaws
import Derived.LaidHandle
import Derived.Stop.Joined
set_option linter.unusedSimpArgs false
set_option linter.unusedVariables false
namespace Go.Proofs.YtjmcgdhekjkjfaaDoor
open Go Go.VM
variable {G : GE}
set_option maxRecDepth 100000
set_option maxHeartbeats 4000000
theorem loop_relem {m : Nat} {C : Ctx} {F : Nat} (hC : (envG G).ctx 58 (callN (envG G) F (m)) (callP (envG G) F (m)) = C) {c : Code} (hc : loopAt 25 Tryd.f58 = some c) (b : List Int) (nl : Bool) (d v fr0 to : Nat) (y : Int) (hd : d ≤ 15) (hto : to ≤ 1048576) (hfv : fr0 + v = to) (g : Nat → Nat → Res (Tlv × Nat))
    (hg : ∀ fr, fr ≤ to → match g fr to with
      | .ok (x, nx) => callP (envG G) F m 58 [.ptr 0 0, .d (.int .i64 fr), .d (.int .i64 to), .d (.int .i64 ((d : Int) + 1))] [rdr nl b 0 y] [] = some ⟨[.d (.agg x.cells), .d (.int .i64 nx)], [], [rdr nl b 0 y], []⟩
      | .bad c p => ∃ x : Tlv, callP (envG G) F m 58 [.ptr 0 0, .d (.int .i64 fr), .d (.int .i64 to), .d (.int .i64 ((d : Int) + 1))] [rdr nl b 0 y] [] = some ⟨[.d (.agg x.cells), .d (.int .i64 0)], [], [rdr nl b c p], []⟩)
    (hgo : ∀ fr x nx, g fr to = .ok (x, nx) → fr < nx ∧ nx ≤ to) (hgb : ∀ fr c p, g fr to = .bad c p → 1 ≤ c) (xc xt : Int) (xm : Bool) :
    ∀ (u fr k : Nat) (acc : List Tlv) (st : St), to - fr ≤ u → u < k → fr ≤ to → acc.length + to ≤ 2097152 + fr →
      st.trim 3 [0, 3, 8, 10, 12, 13, 14] = ⟨[(0, .ptr 0 0), (3, .d (.int .i64 d)), (8, .ptr 1 0), (10, .ptr 2 0), (12, .d (.int .i64 v)), (13, .d (.int .i64 fr0)), (14, .d (.int .i64 fr))],
        [rdr nl b 0 y, some (.cells false [.d (.int .i64 0), .d (.int .i64 0), .d (.bool false), .d (.nums .u8 true []), .d (.sl 5 true [])]),
         some (.cells false [.d (.int .i64 xc), .d (.int .i64 xt), .d (.bool xm), .d (.nums .u8 true []), .d (.sl 5 acc.isEmpty (Tlv.cellsL acc))])], [.b 2 4, .b 2 3, .b 1 4, .b 1 3]⟩ →
      match kidsB g u fr to with
      | .ok l => iter (ev C F c) 3 [0, 3, 8, 10, 12, 13, 14] [8, 9, 10, 14] k st = some (.exit 0, ⟨[(8, .ptr 1 0), (10, .ptr 2 0), (14, .d (.int .i64 to))],
          [rdr nl b 0 y, some (.cells false [.d (.int .i64 0), .d (.int .i64 0), .d (.bool false), .d (.nums .u8 true []), .d (.sl 5 true [])]),
           some (.cells false [.d (.int .i64 xc), .d (.int .i64 xt), .d (.bool xm), .d (.nums .u8 true []), .d (.sl 5 (acc ++ l).isEmpty (Tlv.cellsL (acc ++ l)))])], [.b 2 4, .b 2 3, .b 1 4, .b 1 3]⟩)
      | .bad c1 p => ∃ (x : Tlv) (st' : St), iter (ev C F c) 3 [0, 3, 8, 10, 12, 13, 14] [8, 9, 10, 14] k st = some (.ret, st') ∧ finishP C 1 Tryd.f58.results.toList (some (.ret, st')) = some ⟨[.d (.agg x.cells), .d (.int .i64 0)], [], [rdr nl b c1 p], []⟩ := by
  have htt : C.tt = (envG G).tt := by rw [← hC]; rfl
  have hlin : C.lin = [115, 52, 16, 13, 128, 99, 14, 130, 98, 9, 83, 123] := by rw [← hC]; rfl
  have hreg : C.reg = reg58 := by rw [← hC]; rfl
  have hcall : C.call = callN (envG G) F (m) := by rw [← hC]; rfl
  have hcallP : C.callP = callP (envG G) F (m) := by rw [← hC]; rfl
  have hlv_25 : C.live 25 = [0, 3, 8, 10, 12, 13, 14] := by rw [← hC]; rfl
  have hlv_100025 : C.live 100025 = [8, 9, 10, 14] := by rw [← hC]; rfl
  have hev : ∀ st, ev C F c st = ev C F ((loopAt 25 Tryd.f58).getD .skip) st := fun st => by rw [hc]; rfl
  unfold rdr at hg ⊢
  intro u
  induction u with
  | zero =>
    intro fr k acc st hu hk hf ha hst
    obtain ⟨k, rfl⟩ : ∃ j, k = j + 1 := ⟨k - 1, by omega⟩
    have e0 : ¬ ((fr : Int) < (fr0 : Int) + v) := by omega
    have e3 : (fr0 : Int) + v ≤ 9223372036854775807 := by omega
    have e4 : (-9223372036854775808 : Int) ≤ (fr0 : Int) + v := by omega
    have hft : fr = to := by omega
    subst hft
    simp only [kidsB]
    rw [iter_eq, hst, hev]
    simp [loopAt, findLoop, Tryd.f58, htt, hlin, hreg, reg58, hcall, hcallP, hlv_25, hlv_100025, e0, e3, e4]
  | succ u ih =>
    intro fr k acc st hu hk hf ha hst
    obtain ⟨k, rfl⟩ : ∃ j, k = j + 1 := ⟨k - 1, by omega⟩
    have e3 : (fr0 : Int) + v ≤ 9223372036854775807 := by omega
    have e4 : (-9223372036854775808 : Int) ≤ (fr0 : Int) + v := by omega
    simp only [kidsB]
    by_cases h0 : fr < to
    case neg =>
      have e0 : ¬ ((fr : Int) < (fr0 : Int) + v) := by omega
      have hft : fr = to := by omega
      subst hft
      rw [if_neg h0]
      rw [iter_eq, hst, hev]
      simp [loopAt, findLoop, Tryd.f58, htt, hlin, hreg, reg58, hcall, hcallP, hlv_25, hlv_100025, e0, e3, e4]
    case pos =>
      have e0 : ((fr : Int) < (to : Int)) := by omega
      have e3 : (to : Int) ≤ 9223372036854775807 := by omega
      have e4 : (-9223372036854775808 : Int) ≤ (to : Int) := by omega
      have e1 : (d : Int) + 1 ≤ 9223372036854775807 := by omega
      have e2 : (-9223372036854775808 : Int) ≤ (d : Int) + 1 := by omega
      have e5 : (fr0 : Int) + v = to := by omega
      rw [if_pos h0]
      have hc1 := hg fr hf
      cases hgr : g fr to with
      | bad c1 p =>
        rw [hgr] at hc1
        obtain ⟨x, hc1⟩ := hc1
        have hc0 := hgb _ _ _ hgr
        have hc2 : ¬ c1 = 0 := by omega
        refine ⟨.mk xc xt xm true [] acc.isEmpty acc, ?_⟩
        obtain ⟨x1, x2, x3, xbn, xb, xkn, xks⟩ := x
        simp only [Tlv.cells] at hc1 ⊢
        rw [iter_eq, hst, hev]
        cases xkn <;> cases xbn <;>
        simp [loopAt, findLoop, Tryd.f58, htt, hlin, hreg, reg58, hcall, hcallP, hlv_25, hlv_100025, e0, e1, e2, e3, e4, e5, hc1, hc2]
      | ok r =>
        obtain ⟨x, nx⟩ := r
        rw [hgr] at hc1
        simp only at hc1
        obtain ⟨hlo, hhi⟩ := hgo fr x nx hgr
        have ih' := fun st h => ih nx k (acc ++ [x]) st (by omega) (by omega) hhi (by simp; omega) h
        have hsn := cellsL_snoc acc x
        obtain ⟨x1, x2, x3, xbn, xb, xkn, xks⟩ := x
        simp only [Tlv.cells] at hc1 hsn
        have hal : (acc.length + 1) * 72 ≤ 140737488355328 := by omega
        have hal2 : acc.length ≤ 140737488355327 := by omega
        have hl := cellsL_len acc
        cases hk2 : kidsB g u nx to with
        | ok l =>
          rw [hk2] at ih'
          simp only [hgr, hk2]
          rw [iter_eq, hst, hev]
          cases xkn <;> cases xbn <;>
          (simp [loopAt, findLoop, Tryd.f58, htt, hlin, hreg, reg58, hcall, hcallP, hlv_25, hlv_100025, e0, e1, e2, e3, e4, e5, hc1, hl, hsn, hal, hal2]
           simp at ih'
           exact ih' _ (by simp))
        | bad c1 p =>
          rw [hk2] at ih'
          simp only [hgr, hk2]
          rw [iter_eq, hst, hev]
          cases xkn <;> cases xbn <;>
          (simp [loopAt, findLoop, Tryd.f58, htt, hlin, hreg, reg58, hcall, hcallP, hlv_25, hlv_100025, e0, e1, e2, e3, e4, e5, hc1, hl, hsn, hal, hal2]
           simp [Tryd.f58, htt, hlin, hreg, reg58, hcall, hcallP, hlv_25, hlv_100025] at ih'
           exact ih' _ (by simp))
end Go.Proofs.YtjmcgdhekjkjfaaDoor
set_option linter.unusedSimpArgs false
set_option linter.unusedVariables false
namespace Go.Proofs.YtjmcgdhekjkjfaaDoor
open Go Go.VM
variable {G : GE}
set_option maxRecDepth 100000
set_option maxHeartbeats 4000000
theorem t_relem (F : Nat) (hF : 1048580 < F) (b : List Int) (nl : Bool) (hnl : nl = true → b = []) (hb : ∀ c ∈ b, 0 ≤ c ∧ c < 256) (hlen : b.length ≤ 1048576) (y : Int) :
    ∀ (d e n i stop : Nat), d + e = 16 → stop ≤ b.length → i ≤ stop →
    match elemB b d i stop with
    | .ok (x, nx) => callP (envG G) F (n + d + 3) 58 [.ptr 0 0, .d (.int .i64 i), .d (.int .i64 stop), .d (.int .i64 e)] [rdr nl b 0 y] [] = some ⟨[.d (.agg x.cells), .d (.int .i64 nx)], [], [rdr nl b 0 y], []⟩
    | .bad c p => ∃ x : Tlv, callP (envG G) F (n + d + 3) 58 [.ptr 0 0, .d (.int .i64 i), .d (.int .i64 stop), .d (.int .i64 e)] [rdr nl b 0 y] [] = some ⟨[.d (.agg x.cells), .d (.int .i64 0)], [], [rdr nl b c p], []⟩ := by
  intro d
  induction d with
  | zero =>
    intro e n i stop he hs hi
    have ks : ∀ c p, callP (envG G) F (n + 2) _ _ _ _ = _ := fun c p => t_rfail (G := G) F (n + 1) nl b 0 y c p
    simp only [elemB]
    rw [show n + 0 + 3 = n + 2 + 1 by omega]
    rw [callP_run (fn := Tryd.f58) rfl rfl rfl (by simp [Tryd.ntmps58])]
    generalize hC : (envG G).ctx 58 (callN (envG G) F (n+2)) (callP (envG G) F (n+2)) = C
    have htt : C.tt = (envG G).tt := by rw [← hC]; rfl
    have hlin : C.lin = [115, 52, 16, 13, 128, 99, 14, 130, 98, 9, 83, 123] := by rw [← hC]; rfl
    have hreg : C.reg = reg58 := by rw [← hC]; rfl
    have hcall : C.call = callN (envG G) F (n+2) := by rw [← hC]; rfl
    have hcallP : C.callP = callP (envG G) F (n+2) := by rw [← hC]; rfl
    have hlv_25 : C.live 25 = [0, 3, 8, 10, 12, 13, 14] := by rw [← hC]; rfl
    have hlv_100025 : C.live 100025 = [8, 9, 10, 14] := by rw [← hC]; rfl
    unfold rdr at ks ⊢
    have h1 : (16 : Int) ≤ (e : Int) := by omega
    refine ⟨zeroT, ?_⟩
    simp only [zeroT, Tlv.cells, Tlv.cellsL]
    simp [htt, hlin, hreg, reg58, hcall, hcallP, hlv_25, hlv_100025, ks, h1]
  | succ d ih =>
    intro e n i stop he hs hi
    have ks : ∀ c p, callP (envG G) F (n + d + 3) _ _ _ _ = _ := fun c p => t_rfail (G := G) F (n + d + 2) nl b 0 y c p
    have kl : callP (envG G) F (n + d + 3) _ _ _ _ = _ := t_rlength (G := G) F (n + d + 1) (by omega) b nl hb hlen (i + 1) stop hs (by omega) y
    rw [show ((i + 1 : Nat) : Int) = (i : Int) + 1 by omega] at kl
    have g0 := byteAt_ok hb i
    rw [show n + (d + 1) + 3 = n + d + 3 + 1 by omega]
    rw [callP_run (fn := Tryd.f58) rfl rfl rfl (by simp [Tryd.ntmps58])]
    generalize hC : (envG G).ctx 58 (callN (envG G) F (n+d+3)) (callP (envG G) F (n+d+3)) = C
    have htt : C.tt = (envG G).tt := by rw [← hC]; rfl
    have hlin : C.lin = [115, 52, 16, 13, 128, 99, 14, 130, 98, 9, 83, 123] := by rw [← hC]; rfl
    have hreg : C.reg = reg58 := by rw [← hC]; rfl
    have hcall : C.call = callN (envG G) F (n+d+3) := by rw [← hC]; rfl
    have hcallP : C.callP = callP (envG G) F (n+d+3) := by rw [← hC]; rfl
    have hlv_25 : C.live 25 = [0, 3, 8, 10, 12, 13, 14] := by rw [← hC]; rfl
    have hlv_100025 : C.live 100025 = [8, 9, 10, 14] := by rw [← hC]; rfl
    have h1 : ¬ (16 : Int) ≤ (e : Int) := by omega
    have e1 : (i : Int) + 1 ≤ 9223372036854775807 := by omega
    have e2 : (-9223372036854775808 : Int) ≤ (i : Int) + 1 := by omega
    simp only [elemB]
    by_cases c1 : stop ≤ i
    · have f1 : (stop : Int) ≤ (i : Int) := by omega
      rw [if_pos c1]
      refine ⟨zeroT, ?_⟩
      unfold rdr at ks ⊢
      simp only [zeroT, Tlv.cells, Tlv.cellsL]
      simp [htt, hlin, hreg, reg58, hcall, hcallP, hlv_25, hlv_100025, ks, h1, f1]
    · have f1 : ¬ (stop : Int) ≤ (i : Int) := by omega
      have r0 := byteAt_get (b := b) (i := i) (by omega)
      have hnf : nl = false := by
        cases nl with
        | false => rfl
        | true => rw [hnl rfl] at hs; simp at hs; omega
      rw [if_neg c1]
      have e11 : byteAt b i ≤ 9223372036854775807 := by omega
      have e12 : (-9223372036854775808 : Int) ≤ byteAt b i := by omega
      have t1 : (byteAt b i).tmod 32 = byteAt b i % 32 := Int.tmod_eq_emod_of_nonneg g0.1
      have t2 : (byteAt b i).tdiv 64 = byteAt b i / 64 := Int.tdiv_eq_ediv_of_nonneg g0.1
      have t3 : (byteAt b i).tdiv 32 = byteAt b i / 32 := Int.tdiv_eq_ediv_of_nonneg g0.1
      have t4 : (byteAt b i / 32).tmod 2 = byteAt b i / 32 % 2 := Int.tmod_eq_emod_of_nonneg (by omega)
      have e5 : byteAt b i / 64 ≤ 9223372036854775807 := by omega
      have e6 : (-9223372036854775808 : Int) ≤ byteAt b i / 64 := by omega
      have e7 : byteAt b i % 32 ≤ 9223372036854775807 := by omega
      have e8 : (-9223372036854775808 : Int) ≤ byteAt b i % 32 := by omega
      have e9 : byteAt b i / 32 ≤ 9223372036854775807 := by omega
      have e10 : (-9223372036854775808 : Int) ≤ byteAt b i / 32 := by omega
      have e13 : byteAt b i / 32 % 2 ≤ 9223372036854775807 := by omega
      have e14 : (-9223372036854775808 : Int) ≤ byteAt b i / 32 % 2 := by omega
      by_cases c2 : byteAt b i % 32 = 31
      · rw [if_pos c2]
        refine ⟨zeroT, ?_⟩
        unfold rdr at ks ⊢
        simp only [zeroT, Tlv.cells, Tlv.cellsL]
        simp [htt, hlin, hreg, reg58, hcall, hcallP, hlv_25, hlv_100025, ks, h1, f1, r0, e7, e8, e11, e12, t1, c2]
      · rw [if_neg c2]
        simp only [spanB]
        generalize hsp : lenB b (i + 1) stop = sp at *
        cases sp with
        | bad c p =>
          have hcp : ¬ c = 0 := by
            have := @elemB_place b (d + 1) i stop c p (by simp only [elemB, if_neg c1, if_neg c2, spanB, hsp])
            omega
          simp only [rlenV] at kl
          simp only
          refine ⟨zeroT, ?_⟩
          unfold rdr at ks kl ⊢
          simp only [zeroT, Tlv.cells, Tlv.cellsL]
          simp [htt, hlin, hreg, reg58, hcall, hcallP, hlv_25, hlv_100025, ks, h1, f1, r0, e1, e2, e7, e8, e11, e12, t1, c2, kl, hcp]
        | ok ft =>
          obtain ⟨v, fr⟩ := ft
          have hp := lenB_ok hb hs hsp
          simp only [rlenV] at kl
          simp only
          have e15 : (fr : Int) + v ≤ 9223372036854775807 := by omega
          have e16 : (-9223372036854775808 : Int) ≤ (fr : Int) + v := by omega
          by_cases c4 : stop < fr + v
          · have f4 : (stop : Int) < (fr : Int) + v := by omega
            rw [if_pos c4]
            simp only
            refine ⟨zeroT, ?_⟩
            unfold rdr at ks kl ⊢
            simp only [zeroT, Tlv.cells, Tlv.cellsL, Int.natCast_add, Int.cast_ofNat_Int]
            simp [htt, hlin, hreg, reg58, hcall, hcallP, hlv_25, hlv_100025, ks, h1, f1, f4, r0, e1, e2, e7, e8, e11, e12, e15, e16, t1, c2, kl]
          · have f4 : ¬ (stop : Int) < (fr : Int) + v := by omega
            rw [if_neg c4]
            simp only
            by_cases c3 : byteAt b i / 32 % 2 = 1
            case neg =>
              rw [if_neg c3]
              have f2 : (fr : Int) ≤ (fr : Int) + v := by omega
              have f3 : (fr : Int) + v ≤ b.length := by omega
              have n1 : ((fr : Int) + v).toNat = fr + v := by omega
              have hll : ((b.take (fr + v)).drop fr).length ≤ 140737488355327 := by simp; omega
              have hdt : (b.take (fr + v)).drop fr = (b.drop fr).take (fr + v - fr) := by rw [List.drop_take]
              rw [← hdt]
              generalize hus : (b.take (fr + v)).drop fr = us at *
              have hll2 : us.length ≤ 140737488355328 := by omega
              subst hnf
              unfold rdr at ks kl ⊢
              simp only [Tlv.cells, Tlv.cellsL, Int.natCast_add]
              simp [htt, hlin, hreg, reg58, hcall, hcallP, hlv_25, hlv_100025, ks, h1, f1, f2, f3, f4, n1, r0, e1, e2, e5, e6, e7, e8, e9, e10, e11, e12, e13, e14, e15, e16, t1, t2, t3, t4, c2, c3, kl, hus, hll, hll2]
            case pos =>
              rw [if_pos c3]
              have hL := fun st h => loop_relem (G := G) hC rfl b nl e v fr (fr + v) y (by omega) (by omega) rfl (elemB b d) (fun fr2 hfr => by
                  have := ih (e + 1) n fr2 (fr + v) (by omega) (by omega) hfr
                  rw [show ((e + 1 : Nat) : Int) = (e : Int) + 1 by omega] at this
                  exact this)
                (fun fr2 x nx h => by have := elemB_ok hb d fr2 (fr + v) x nx (by omega) h; exact ⟨by have := this.lo; omega, this.hi⟩)
                (fun fr2 c p h => (elemB_place h).2.1)
                (byteAt b i / 64) (byteAt b i % 32) true (fr + v - fr) fr F [] st (by omega) (by omega) (by omega) (by simp; omega) h
              generalize kidsB (elemB b d) (fr + v - fr) fr (fr + v) = kr at *
              clear hC ih
              cases kr with
              | ok l =>
                simp [Tlv.cellsL] at hL
                simp only [Tlv.cells]
                unfold rdr at ks kl hL ⊢
                simp [htt, hlin, hreg, reg58, hcall, hcallP, hlv_25, hlv_100025, ks, h1, f1, f4, r0, e1, e2, e5, e6, e7, e8, e9, e10, e11, e12, e13, e14, e15, e16, t1, t2, t3, t4, c2, c3, kl, ev_loop]
                rw [hL _ (by simp [Tlv.cellsL])]
                simp [htt, hlin, hreg, reg58, hcall, hcallP, hlv_25, hlv_100025]
              | bad c p =>
                simp only at hL
                have hL2 := fun st h => Classical.choose_spec (Classical.choose_spec (hL st h))
                simp only at hL2 ⊢
                unfold rdr at ks kl hL2 ⊢
                simp [htt, hlin, hreg, reg58, hcall, hcallP, hlv_25, hlv_100025, ks, h1, f1, f4, r0, e1, e2, e5, e6, e7, e8, e9, e10, e11, e12, e13, e14, e15, e16, t1, t2, t3, t4, c2, c3, kl, ev_loop]
                apply Exists.intro
                rw [(hL2 _ (by simp [Tlv.cellsL])).1]
                exact (hL2 _ (by simp [Tlv.cellsL])).2
end Go.Proofs.YtjmcgdhekjkjfaaDoor
set_option linter.unusedSimpArgs false
set_option linter.unusedVariables false
namespace Go.Proofs.YtjmcgdhekjkjfaaDoor
open Go Go.VM
variable {G : GE}
set_option maxRecDepth 100000
set_option maxHeartbeats 4000000
def rparseV : Res Tlv → List V
  | .ok x => [.d (.agg x.cells), .d (.int .i64 0), .d (.int .i64 (-1))]
  | .bad c p => [.d (.agg zeroT.cells), .d (.int .i64 c), .d (.int .i64 p)]
theorem t_rParse (F : Nat) (hF : 1048580 < F) (n : Nat) (b : List Int) (nl : Bool) (hnl : nl = true → b = []) (hb : ∀ c ∈ b, 0 ≤ c ∧ c < 256) :
    callN (envG G) F (n + 20) 13 [.d (.nums .u8 nl b)] = some ⟨rparseV (parseB b), []⟩ := by
  have ke := fun (h : b.length ≤ 1048576) => t_relem (G := G) F hF b nl hnl hb h 0 16 0 n 0 b.length (by omega) (by omega) (by omega)
  have kp := @elemB_place b 16 0 b.length
  have ko := fun x e => elemB_ok hb 16 0 b.length x e (Nat.le_refl _)
  rw [callN_run (fn := Tryd.f13) rfl rfl rfl (by simp [Tryd.ntmps13])]
  generalize hC : (envG G).ctx 13 (callN (envG G) F (n+19)) (callP (envG G) F (n+19)) = C
  have htt : C.tt = (envG G).tt := by rw [← hC]; rfl
  have hlin : C.lin = [] := by rw [← hC]; rfl
  have hreg : C.reg = reg13 := by rw [← hC]; rfl
  have hcall : C.call = callN (envG G) F (n+19) := by rw [← hC]; rfl
  have hcallP : C.callP = callP (envG G) F (n+19) := by rw [← hC]; rfl
  have hlv_200006 : C.live 200006 = [4, 8, 9] := by rw [← hC]; rfl
  have hlv_250006 : C.live 250006 = [] := by rw [← hC]; rfl
  have hlv_300006 : C.live 300006 = [2] := by rw [← hC]; rfl
  unfold parseB
  by_cases c1 : 1048576 < b.length
  · have f1 : (1048576 : Int) < b.length := by omega
    simp only [if_pos c1, rparseV, zeroT, Tlv.cells, Tlv.cellsL]
    simp [htt, hlin, hreg, reg13, hcall, hcallP, hlv_200006, hlv_250006, hlv_300006, f1]
  · have f1 : ¬ (1048576 : Int) < b.length := by omega
    have ke' := ke (by omega)
    clear ke
    rw [if_neg c1]
    unfold rdr at ke'
    generalize elemB b 16 0 b.length = r at *
    cases r with
    | bad c p =>
      have hp := kp rfl
      have hc : ¬ c = 0 := by omega
      simp only at ke'
      obtain ⟨x, ke'⟩ := ke'
      simp only [rparseV, zeroT, Tlv.cells, Tlv.cellsL]
      obtain ⟨xc, xt, xm, xbn, xb, xkn, xks⟩ := x
      simp only [Tlv.cells] at ke'
      simp at ke'
      cases xkn <;> cases xbn <;>
      simp [htt, hlin, hreg, reg13, hcall, hcallP, hlv_200006, hlv_250006, hlv_300006, f1, ke', hc]
    | ok r =>
      obtain ⟨x, e⟩ := r
      have hx := ko x e rfl
      have hh := hx.hi
      clear ko kp hx
      obtain ⟨xc, xt, xm, xbn, xb, xkn, xks⟩ := x
      simp only [Tlv.cells] at ke'
      simp at ke'
      by_cases c2 : e < b.length
      · have f2 : (e : Int) < b.length := by omega
        simp only [if_pos c2, rparseV, zeroT, Tlv.cells, Tlv.cellsL]
        cases xkn <;> cases xbn <;>
        simp [htt, hlin, hreg, reg13, hcall, hcallP, hlv_200006, hlv_250006, hlv_300006, f1, ke', f2]
      · have f2 : ¬ (e : Int) < b.length := by omega
        simp only [if_neg c2, rparseV, Tlv.cells]
        cases xkn <;> cases xbn <;>
        simp [htt, hlin, hreg, reg13, hcall, hcallP, hlv_200006, hlv_250006, hlv_300006, f1, ke', f2]
end Go.Proofs.YtjmcgdhekjkjfaaDoor
set_option linter.unusedSimpArgs false
set_option linter.unusedVariables false
namespace Go.Proofs.YtjmcgdhekjkjfaaDoor
open Go Go.VM
variable {G : GE}
set_option maxRecDepth 100000
set_option maxHeartbeats 4000000
def tlvB (p0 p1 : Int) (p2 : Bool) (bn : Bool) (b : List Int) (kn : Bool) (ks : List Tlv) : Option Blk := some (.cells false [.d (.int .i64 p0), .d (.int .i64 p1), .d (.bool p2), .d (.nums .u8 bn b), .d (.sl 5 kn (Tlv.cellsL ks))])
theorem loop_same {m : Nat} {C : Ctx} {F : Nat} (hC : (envG G).ctx 14 (callN (envG G) F (m)) (callP (envG G) F (m)) = C) {c : Code} (hc : loopAt 4 Tryd.f14 = some c) (p0 p1 q0 q1 : Int) (p2 q2 bn cn : Bool) (b1 c1 : List Int) (kn ln : Bool) (a b : List Tlv) (ha : a.length ≤ 140737488355328) (hab : a.length = b.length)
    (hg : ∀ x ∈ a, ∀ y ∈ b, callN (envG G) F m 14 [.d (.agg x.cells), .d (.agg y.cells)] = some ⟨[.d (.bool (x.same y))], []⟩) :
    ∀ (us vs : List Tlv) (i k : Nat) (st : St), a.drop i = us → b.drop i = vs → i ≤ a.length → us.length < k →
      st.trim 2 [2, 3, 5] = ⟨[(2, .ptr 0 0), (3, .ptr 1 0), (5, .d (.int .i64 i))], [tlvB p0 p1 p2 bn b1 kn a, tlvB q0 q1 q2 cn c1 ln b], []⟩ →
      if Tlv.sameL us vs then iter (ev C F c) 2 [2, 3, 5] [4] k st = some (.exit 0, ⟨[], [tlvB p0 p1 p2 bn b1 kn a, tlvB q0 q1 q2 cn c1 ln b], []⟩)
      else ∃ st', iter (ev C F c) 2 [2, 3, 5] [4] k st = some (.ret, st') ∧ finish C Tryd.f14.results.toList (some (.ret, st')) = some ⟨[.d (.bool false)], []⟩ := by
  have htt : C.tt = (envG G).tt := by rw [← hC]; rfl
  have hlin : C.lin = [] := by rw [← hC]; rfl
  have hreg : C.reg = reg14 := by rw [← hC]; rfl
  have hcall : C.call = callN (envG G) F (m) := by rw [← hC]; rfl
  have hcallP : C.callP = callP (envG G) F (m) := by rw [← hC]; rfl
  have hlv_4 : C.live 4 = [2, 3, 5] := by rw [← hC]; rfl
  have hlv_100004 : C.live 100004 = [4] := by rw [← hC]; rfl
  have hlv_200006 : C.live 200006 = [] := by rw [← hC]; rfl
  have hlv_250006 : C.live 250006 = [] := by rw [← hC]; rfl
  have hev : ∀ st, ev C F c st = ev C F ((loopAt 4 Tryd.f14).getD .skip) st := fun st => by rw [hc]; rfl
  unfold tlvB
  intro us
  induction us with
  | nil =>
    intro vs i k st hd hd2 hi hk hst
    obtain ⟨k, rfl⟩ : ∃ j, k = j + 1 := ⟨k - 1, by simp at hk; omega⟩
    have h0 := drop_nil hd
    have hv : vs = [] := by rw [← hd2]; exact List.drop_eq_nil_of_le (by omega)
    subst hv
    have e0 : ¬ ((i : Int) < (a.length : Int)) := by omega
    rw [iter_eq, hst, hev]
    simp [loopAt, findLoop, Tryd.f14, htt, hlin, hreg, reg14, hcall, hcallP, hlv_4, hlv_100004, hlv_200006, hlv_250006, e0, Tlv.sameL, cellsL_len]
  | cons x us ih =>
    intro vs i k st hd hd2 hi hk hst
    obtain ⟨k, rfl⟩ : ∃ j, k = j + 1 := ⟨k - 1, by simp at hk; omega⟩
    simp at hk
    obtain ⟨hd3, hlt⟩ := drop_succ hd
    cases vs with
    | nil => have := drop_nil hd2; omega
    | cons y vs =>
      obtain ⟨hd4, hlt2⟩ := drop_succ hd2
      have ra := cellsL_at hd
      have rb := cellsL_at hd2
      have hx := hg x (List.mem_of_getElem? (at_of_drop hd)) y (List.mem_of_getElem? (at_of_drop hd2))
      have e0 : (i : Int) < (a.length : Int) := by omega
      have e1 : (i : Int) + 1 ≤ 9223372036854775807 := by omega
      have e2 : (-9223372036854775808 : Int) ≤ (i : Int) + 1 := by omega
      simp only [Tlv.sameL]
      have ih' := fun st h => ih vs (i + 1) k st hd3 hd4 (by omega) hk h
      obtain ⟨x1, x2, x3, x4, x5, x6, x7⟩ := x
      obtain ⟨y1, y2, y3, y4, y5, y6, y7⟩ := y
      simp only [Tlv.cells] at ra rb hx
      rcases Bool.eq_false_or_eq_true (Tlv.same (.mk x1 x2 x3 x4 x5 x6 x7) (.mk y1 y2 y3 y4 y5 y6 y7)) with hs | hs
      case inr =>
        rw [hs] at hx
        rw [iter_eq, hst, hev]
        simp [loopAt, findLoop, Tryd.f14, htt, hlin, hreg, reg14, hcall, hcallP, hlv_4, hlv_100004, hlv_200006, hlv_250006, e0, e1, e2, ra, rb, hx, hs, cellsL_len]
      case inl =>
        rw [hs] at hx
        rcases Bool.eq_false_or_eq_true (Tlv.sameL us vs) with h2 | h2
        · rw [h2] at ih'
          simp only [hs, h2, Bool.and_self, if_true] at ih' ⊢
          rw [iter_eq, hst, hev]
          simp [loopAt, findLoop, Tryd.f14, htt, hlin, hreg, reg14, hcall, hcallP, hlv_4, hlv_100004, hlv_200006, hlv_250006, e0, e1, e2, ra, rb, hx, hs, cellsL_len]
          simp at ih'
          exact ih' _ (by simp)
        · rw [h2] at ih'
          simp only [hs, h2, Bool.and_false, Bool.false_eq_true, if_false] at ih' ⊢
          rw [iter_eq, hst, hev]
          simp [loopAt, findLoop, Tryd.f14, htt, hlin, hreg, reg14, hcall, hcallP, hlv_4, hlv_100004, hlv_200006, hlv_250006, e0, e1, e2, ra, rb, hx, hs, cellsL_len]
          simp [Tryd.f14, htt, hlin, hreg, reg14, hcall, hcallP, hlv_4, hlv_100004, hlv_200006, hlv_250006] at ih'
          exact ih' _ (by simp)
theorem t_same (F : Nat) (hF : F ≤ 140737488355328) (B : Nat) (hB : B < F) : ∀ (d n : Nat) (x y : Tlv), x.depth ≤ d → x.width B → y.width B →
    callN (envG G) F (n + d) 14 [.d (.agg x.cells), .d (.agg y.cells)] = some ⟨[.d (.bool (x.same y))], []⟩ := by
  intro d
  induction d with
  | zero => intro n x y hd; cases x; simp [Tlv.depth] at hd
  | succ d ih =>
    intro n x y hd hw hwy
    obtain ⟨x1, x2, x3, x4, x5, x6, x7⟩ := x
    obtain ⟨y1, y2, y3, y4, y5, y6, y7⟩ := y
    simp only [Tlv.depth] at hd
    simp only [Tlv.width] at hw hwy
    have hkl : x7.length ≤ B := hw.2.1
    have hbl : x5.length ≤ B := hw.1
    have hbl2 : y5.length ≤ B := hwy.1
    simp only [Tlv.cells]
    rw [show n + (d + 1) = n + d + 1 by omega]
    rw [callN_run (fn := Tryd.f14) rfl rfl rfl (by simp [Tryd.ntmps14])]
    generalize hC : (envG G).ctx 14 (callN (envG G) F (n+d)) (callP (envG G) F (n+d)) = C
    have htt : C.tt = (envG G).tt := by rw [← hC]; rfl
    have hlin : C.lin = [] := by rw [← hC]; rfl
    have hreg : C.reg = reg14 := by rw [← hC]; rfl
    have hcall : C.call = callN (envG G) F (n+d) := by rw [← hC]; rfl
    have hcallP : C.callP = callP (envG G) F (n+d) := by rw [← hC]; rfl
    have hlv_4 : C.live 4 = [2, 3, 5] := by rw [← hC]; rfl
    have hlv_100004 : C.live 100004 = [4] := by rw [← hC]; rfl
    have hlv_200006 : C.live 200006 = [] := by rw [← hC]; rfl
    have hlv_250006 : C.live 250006 = [] := by rw [← hC]; rfl
    have m1 : x5.length ≤ 140737488355328 := by omega
    have m2 : y5.length ≤ 140737488355328 := by omega
    by_cases h : x1 = y1 ∧ x2 = y2 ∧ x3 = y3 ∧ x5 = y5 ∧ x7.length = y7.length
    case neg =>
      have hs : Tlv.same (.mk x1 x2 x3 x4 x5 x6 x7) (.mk y1 y2 y3 y4 y5 y6 y7) = false := by
        simp only [Tlv.same, decide_eq_false h, Bool.false_and]
      rw [hs]
      by_cases c1 : x1 = y1
      · by_cases c2 : x2 = y2
        · by_cases c3 : x3 = y3
          · by_cases c4 : x5 = y5
            · have c5 : ¬ x7.length = y7.length := fun c5 => h ⟨c1, c2, c3, c4, c5⟩
              have c6 : ¬ (x7.length : Int) = y7.length := by omega
              subst c1; subst c2; subst c3; subst c4
              simp [htt, hlin, hreg, reg14, hcall, hcallP, hlv_4, hlv_100004, hlv_200006, hlv_250006, cellsL_len, m1, m2, c5, c6]
            · subst c1; subst c2; subst c3
              simp [htt, hlin, hreg, reg14, hcall, hcallP, hlv_4, hlv_100004, hlv_200006, hlv_250006, cellsL_len, m1, m2, c4]
          · subst c1; subst c2
            cases x3 <;> cases y3 <;> simp at c3 <;> simp [htt, hlin, hreg, reg14, hcall, hcallP, hlv_4, hlv_100004, hlv_200006, hlv_250006, cellsL_len, m1, m2]
        · subst c1
          simp [htt, hlin, hreg, reg14, hcall, hcallP, hlv_4, hlv_100004, hlv_200006, hlv_250006, cellsL_len, m1, m2, c2]
      · simp [htt, hlin, hreg, reg14, hcall, hcallP, hlv_4, hlv_100004, hlv_200006, hlv_250006, cellsL_len, m1, m2, c1]
    case pos =>
      obtain ⟨rfl, rfl, rfl, rfl, hl⟩ := h
      have hs : Tlv.same (.mk x1 x2 x3 x4 x5 x6 x7) (.mk x1 x2 x3 y4 x5 y6 y7) = Tlv.sameL x7 y7 := by
        simp [Tlv.same, hl]
      rw [hs]
      have hL := fun st h => loop_same (G := G) hC rfl x1 x2 x1 x2 x3 x3 x4 y4 x5 x5 x6 y6 x7 y7 (by omega) hl
        (fun x hx y hy => ih n x y (by have := depthL_mem hx; omega) (widthL_mem hw.2.2 hx) (widthL_mem hwy.2.2 hy)) x7 y7 0 F st rfl rfl (by omega) (by omega) h
      have hl2 : (x7.length : Int) = y7.length := by omega
      unfold tlvB at hL
      clear hC ih
      rcases Bool.eq_false_or_eq_true (Tlv.sameL x7 y7) with h2 | h2
      · rw [h2] at hL ⊢
        simp at hL
        simp [htt, hlin, hreg, reg14, hcall, hcallP, hlv_4, hlv_100004, hlv_200006, hlv_250006, cellsL_len, m1, m2, hl, ev_loop]
        rw [hL _ (by simp)]
        simp [htt, hlin, hreg, reg14, hcall, hcallP, hlv_4, hlv_100004, hlv_200006, hlv_250006]
      · rw [h2] at hL ⊢
        simp only [Bool.false_eq_true, if_false] at hL
        have hL2 := fun st h => Classical.choose_spec (hL st h)
        simp [Tryd.f14, htt, hlin, hreg, reg14, hcall, hcallP, hlv_4, hlv_100004, hlv_200006, hlv_250006] at hL2
        simp [htt, hlin, hreg, reg14, hcall, hcallP, hlv_4, hlv_100004, hlv_200006, hlv_250006, cellsL_len, m1, m2, hl, ev_loop]
        rw [(hL2 _ (by simp)).1]
        simp [htt, hlin, hreg, reg14, hcall, hcallP, hlv_4, hlv_100004, hlv_200006, hlv_250006]
        exact (hL2 _ (by simp)).2
end Go.Proofs.YtjmcgdhekjkjfaaDoor
set_option linter.unusedSimpArgs false
set_option linter.unusedVariables false
namespace Go.Proofs.YtjmcgdhekjkjfaaDoor
open Go Go.VM
set_option maxRecDepth 100000
set_option maxHeartbeats 4000000
noncomputable def gErr : GE := { glob := fun g => match Nat.beq g 1 with | true => some errT | false => none, ext := fun f args => match Nat.beq f 16 with | true => isX args | false => none }
theorem gErr_ok : EnvOk Tryd.prog (envG gErr) := envOk gErr (fun f args r h => by
  simp only [gErr] at h
  split at h
  · rename_i hf
    have hf := Nat.eq_of_beq_eq_true hf
    subst hf
    exact is_sound rfl args r h
  · cases h)
theorem t_Is (F n : Nat) (args : List V) : callN (envG gErr) F (n+1) 16 args = (isX args).orElse fun _ => callN (envG gErr) F (n+1) 16 args := by
  cases h : isX args with
  | none => rfl
  | some r =>
    rw [callN_succ]
    have : (envG gErr).ext 16 args = some r := h
    rw [this]
    rfl
theorem t_Is_spot (F n : Nat) (q k p c : Int) : callN (envG gErr) F (n+1) 16 [.d (spotD k q), .d (.int .i64 p), .d (.int .i64 c)] = some ⟨[.d (.bool (decide (q = p ∧ k = c)))], []⟩ := by
  rw [callN_succ]
  rfl
theorem t_Is_err (F n : Nat) (k p c : Int) : callN (envG gErr) F (n+1) 16 [.d (err k), .d (.int .i64 p), .d (.int .i64 c)] = some ⟨[.d (.bool false)], []⟩ := by
  rw [callN_succ]
  rfl
theorem t_Is_nil (F n : Nat) (p c : Int) : callN (envG gErr) F (n+1) 16 [.d .nilifc, .d (.int .i64 p), .d (.int .i64 c)] = some ⟨[.d (.bool false)], []⟩ := by
  rw [callN_succ]
  rfl
theorem up0 : callN (envG gErr) 200 40 11 [] = some ⟨[.d (.bool true)], []⟩ := by kernel_rfl
theorem up (F n : Nat) (hf : 200 ≤ F) (hn : 40 ≤ n) : callN (envG gErr) F n 11 [] = some ⟨[.d (.bool true)], []⟩ := callN_mono hf hn up0
end Go.Proofs.YtjmcgdhekjkjfaaDoor
namespace Go.Proofs.YtjmcgdhekjkjfaaDoor
open Go.ChangeShapes Go.WideShapes Go.ChangeAt Go.RowKit Go.VM
set_option linter.unusedVariables false
theorem own : ownKnob Tryd.prog.godebug = none := by kernel_rfl
theorem laidOut : laidOutB Tryd.prog = true := by kernel_rfl
theorem As.et : Tryd.prog.globalNamed "errors.errorType" = some 1 := by kernel_rfl
theorem As.rt : (Tryd.prog.cutTypes.find? (·.1 == "internal/reflectlite.rtype")).map (·.2) = some 189 := by kernel_rfl
theorem As.oneRow : ((List.range 242).filter fun t => Tryd.prog.rowNamed t [101, 114, 114, 111, 114]) = [28] := by kernel_rfl
theorem As.size : Tryd.prog.types.size = 242 := by kernel_rfl
def errLaid {H : Type} : List (String × DataW H) := [("errors.errorType", Rows.laid_errors_errorType)]
theorem handle_of_laid {W : World} (h : laidMetH Tryd.prog errLaid W) : W.cell? ⟨1, 0, none⟩ = some (.iface 189 (.agg #[.pointer (some ⟨8, 28, none⟩)])) := by
  have h' : laidMet Tryd.prog [] W ∧ handlesMet Tryd.prog errLaid W := h
  obtain ⟨name, u, ty, e1, e2, e3, e4, e5⟩ := h'.2 _ (List.mem_singleton.2 rfl)
  have en : name = [101, 114, 114, 111, 114] := (Option.some.inj e1).symm
  subst en
  obtain rfl := Option.some.inj (As.rt.symm.trans e2)
  have hm : ty ∈ (List.range 242).filter fun t => Tryd.prog.rowNamed t [101, 114, 114, 111, 114] := List.mem_filter.2 ⟨List.mem_range.2 (by rw [← As.size]; exact e3), e4⟩
  rw [As.oneRow] at hm
  obtain rfl := List.mem_singleton.1 hm
  have hh : typeHandle Tryd.prog 28 = .pointer (some ⟨8, 28, none⟩) := by kernel_rfl
  rw [hh] at e5
  simpa using World.var?_cell As.et e5 0
noncomputable def laidWorld (os : Os) : World :=
  let w0 := World.holding Tryd.prog os ⟨#[], #[], []⟩
  { w0 with heap := w0.heap.modify 1 fun
      | .cells _ t frozen => .cells #[.iface 189 (.agg #[.pointer (some ⟨8, 28, none⟩)])] t frozen
      | o => o }
theorem laidWorld_met (os : Os) (args : Array Value) : laidMetH Tryd.prog errLaid ((laidWorld os).forCall (fun _ _ => 0) ⟨#[], args, []⟩).memory :=
  laidMetH_of_parts (laidMet_nil _ _) (by kernel_rfl)
theorem rep_err {W : World} (h : W.cell? ⟨1, 0, none⟩ = some (.iface 189 (.agg #[.pointer (some ⟨8, 28, none⟩)]))) :
    ∀ g cs, gErr.glob g = some cs → RepC W noOwn g 0 cs := by
  intro g cs hg
  simp only [gErr] at hg
  split at hg
  · rename_i hb
    have hb := Nat.eq_of_beq_eq_true hb
    subst hb
    cases hg
    intro j x hx
    match j, hx with
    | 0, hx =>
      cases hx
      refine ⟨_, ⟨h, fun ow n h => (by cases h), rfl⟩, .ifc _ _ _ (.agg _ _ rfl (fun j hj => ?_) (fun j x hx => ?_))⟩
      · match j, hj with
        | 0, _ => rfl
      · match j, hx with
        | 0, hx => cases hx; exact .rt _ _
  · cases hg
end Go.Proofs.YtjmcgdhekjkjfaaDoor
