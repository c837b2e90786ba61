/- What the reference's Reader.length hands back. -/
import Derived.Test.YtjmcgdhekjkjfaaGreatDoorSL
import Derived.Test.YtjmcgdhekjkjfaaGreatDoorSJ
set_option linter.unusedSimpArgs false
set_option linter.unusedVariables false
namespace Go.Proofs.YtjmcgdhekjkjfaaGreatDoor
open Go Go.VM
variable {G : GE}
set_option maxRecDepth 100000
set_option maxHeartbeats 4000000
def rlenV (nl : Bool) (b : List Int) (y : Int) : Res (Nat × Nat) → Hand
  | .ok (v, f) => ⟨[.d (.int .i64 v), .d (.int .i64 f)], [], [rdr nl b 0 y], []⟩
  | .bad c p => ⟨[.d (.int .i64 0), .d (.int .i64 0)], [], [rdr nl b c p], []⟩
theorem t_rlength (F n : Nat) (hF : 4 < F) (b : List Int) (nl : Bool) (hb : ∀ c ∈ b, 0 ≤ c ∧ c < 256) (hlen : b.length ≤ 1048576) (i stop : Nat) (hs : stop ≤ b.length) (hi : i ≤ 1048577) (y : Int) :
    callP (envG G) F (n+2) 39 [.ptr 0 0, .d (.int .i64 i), .d (.int .i64 stop)] [rdr nl b 0 y] [] = some (rlenV nl b y (lenB b i stop)) := by
  have ks := fun c p => t_rfail (G := G) F n nl b 0 y c p
  have g0 := byteAt_ok hb i
  have g1 := byteAt_ok hb (i + 1)
  rw [callP_run (fn := Tryz.f39) rfl rfl rfl (by simp [Tryz.ntmps39])]
  generalize hC : (envG G).ctx 39 (callN (envG G) F (n+1)) (callP (envG G) F (n+1)) = C
  have htt : C.tt = (envG G).tt := by rw [← hC]; rfl
  have hlin : C.lin = [] := by rw [← hC]; rfl
  have hreg : C.reg = reg39 := by rw [← hC]; rfl
  have hcall : C.call = callN (envG G) F (n+1) := by rw [← hC]; rfl
  have hcallP : C.callP = callP (envG G) F (n+1) := by rw [← hC]; rfl
  have hlv_16 : C.live 16 = [0, 1, 9, 10, 11] := by rw [← hC]; rfl
  have hlv_100016 : C.live 100016 = [0, 1, 6, 7, 9, 10] := by rw [← hC]; rfl
  have hL := fun q hq hin u j k st => loop_rlen (G := G) hC rfl b i q hb hq hi hin nl 0 y u j k st
  clear hC
  unfold rdr at ks hL ⊢
  have e1 : (i : Int) + 1 ≤ 9223372036854775807 := by omega
  have e2 : (-9223372036854775808 : Int) ≤ (i : Int) + 1 := by omega
  by_cases c1 : stop ≤ i
  · have hsp : lenB b i stop = .bad 6 i := by simp [lenB, c1]
    have f1 : (stop : Int) ≤ (i : Int) := by omega
    rw [hsp]
    simp [htt, hlin, hreg, reg39, hcall, hcallP, hlv_16, hlv_100016, ks, f1, rlenV, rdr]
  · have f1 : ¬ (stop : Int) ≤ (i : Int) := by omega
    have r0 := byteAt_get (b := b) (i := i) (by omega)
    have e7 : byteAt b i ≤ 9223372036854775807 := by omega
    have e8 : (-9223372036854775808 : Int) ≤ byteAt b i := by omega
    by_cases c2 : byteAt b i < 128
    · have hsp : lenB b i stop = .ok ((byteAt b i).toNat, i + 1) := by simp [lenB, c1, c2]
      have e9 : ((byteAt b i).toNat : Int) = byteAt b i := by omega
      rw [hsp]
      simp only [rlenV, rdr, Int.natCast_add, e9]
      simp [htt, hlin, hreg, reg39, hcall, hcallP, hlv_16, hlv_100016, ks, f1, r0, e1, e2, e7, e8, c2]
    · by_cases c3 : byteAt b i = 128 ∨ 131 < byteAt b i
      · have hsp : lenB b i stop = .bad 7 i := by simp [lenB, c1, c2, c3]
        rw [hsp]
        generalize byteAt b i = v at *
        by_cases f2 : v = 128
        · subst f2
          simp [htt, hlin, hreg, reg39, hcall, hcallP, hlv_16, hlv_100016, ks, f1, r0, e1, e2, e7, e8, rlenV, rdr]
        · have f3 : 131 < v := by omega
          simp [htt, hlin, hreg, reg39, hcall, hcallP, hlv_16, hlv_100016, ks, f1, r0, e1, e2, e7, e8, c2, f2, f3, rlenV, rdr]
      · obtain ⟨q, hq0, hq3, hqv⟩ : ∃ q : Nat, 1 ≤ q ∧ q ≤ 3 ∧ byteAt b i = 128 + q := ⟨(byteAt b i - 128).toNat, by omega, by omega, by omega⟩
        have hq : (byteAt b i - 128).toNat = q := by omega
        have f0 : ¬ (128 + (q : Int) < 128) := by omega
        have f2 : ¬ (128 + (q : Int) = 128) := by omega
        have f3 : ¬ (131 < 128 + (q : Int)) := by omega
        have f6 : 128 + (q : Int) - 128 = q := by omega
        have e5 : 128 + (q : Int) ≤ 9223372036854775807 := by omega
        have e6 : (-9223372036854775808 : Int) ≤ 128 + (q : Int) := by omega
        have e9 : (q : Int) ≤ 9223372036854775807 := by omega
        have e10 : (-9223372036854775808 : Int) ≤ (q : Int) := by omega
        have e11 : (i : Int) + 1 + q ≤ 9223372036854775807 := by omega
        have e12 : (-9223372036854775808 : Int) ≤ (i : Int) + 1 + q := by omega
        by_cases c4 : stop < i + 1 + q
        · have hsp : lenB b i stop = .bad 6 i := by simp [lenB, c1, c2, c3, hq, c4]
          have f5 : (stop : Int) < (i : Int) + 1 + q := by omega
          rw [hsp]
          rw [hqv] at r0
          simp [htt, hlin, hreg, reg39, hcall, hcallP, hlv_16, hlv_100016, ks, f1, r0, e1, e2, e5, e6, e9, e10, e11, e12, f0, f2, f3, f5, f6, rlenV, rdr]
        · have f5 : ¬ (stop : Int) < (i : Int) + 1 + q := by omega
          have r1 := byteAt_get (b := b) (i := i + 1) (by omega)
          have hv := beN_ok hb (i + 1) q
          have f9 : (0 : Int) ≤ (i : Int) + 1 := by omega
          have n1 : ((i : Int) + 1).toNat = i + 1 := by omega
          have hL1 := fun st h => hL q hq3 (by omega) q 0 F st (by omega) (by omega) h
          have spc : lenB b i stop = if byteAt b (i + 1) = 0 ∨ beN b (i + 1) q < 128 then .bad 7 i else .ok ((beN b (i + 1) q).toNat, i + 1 + q) := by
            simp only [lenB, if_neg c1, if_neg c2, if_neg c3, hq, if_neg c4]
          rw [spc]
          rw [hqv] at r0
          clear spc hqv hq c2 c3 e7 e8 g0
          simp only [beN] at hL1
          simp at hL1
          generalize beN b (i + 1) q = v at *
          generalize byteAt b (i + 1) = x at *
          simp [htt, hlin, hreg, reg39, hcall, hcallP, hlv_16, hlv_100016, ks, f1, r0, e1, e2, e5, e6, e9, e10, e11, e12, f0, f2, f3, f5, f6, f9, n1, ev_loop]
          rw [hL1 _ (by simp)]
          by_cases c5 : x = 0
          · simp [htt, hlin, hreg, reg39, hcall, hcallP, hlv_16, hlv_100016, ks, r1, n1, f9, e1, e2, c5, rlenV, rdr]
          · by_cases c6 : v < 128
            · simp [htt, hlin, hreg, reg39, hcall, hcallP, hlv_16, hlv_100016, ks, r1, n1, f9, e1, e2, c5, c6, rlenV, rdr]
            · have e19 : (v.toNat : Int) = v := by omega
              simp [htt, hlin, hreg, reg39, hcall, hcallP, hlv_16, hlv_100016, ks, r1, n1, f9, e1, e2, c5, c6, e11, e12, e19, rlenV, rdr]
end Go.Proofs.YtjmcgdhekjkjfaaGreatDoor
set_option linter.unusedSimpArgs false
set_option linter.unusedVariables false
namespace Go.Proofs.YtjmcgdhekjkjfaaGreatDoor
open Go Go.VM
variable {G : GE}
set_option maxRecDepth 100000
set_option maxHeartbeats 4000000
theorem loop_relem {m : Nat} {C : Ctx} {F : Nat} (hC : (envG G).ctx 16 (callN (envG G) F (m)) (callP (envG G) F (m)) = C) {c : Code} (hc : loopAt 25 Tryz.f16 = some c) (b : List Int) (nl : Bool) (d v fr0 to : Nat) (y : Int) (hd : d ≤ 15) (hto : to ≤ 1048576) (hfv : fr0 + v = to) (g : Nat → Nat → Res (Tlv × Nat))
    (hg : ∀ fr, fr ≤ to → match g fr to with
      | .ok (x, nx) => callP (envG G) F m 16 [.ptr 0 0, .d (.int .i64 fr), .d (.int .i64 to), .d (.int .i64 ((d : Int) + 1))] [rdr nl b 0 y] [] = some ⟨[.d (.agg x.cells), .d (.int .i64 nx)], [], [rdr nl b 0 y], []⟩
      | .bad c p => ∃ x : Tlv, callP (envG G) F m 16 [.ptr 0 0, .d (.int .i64 fr), .d (.int .i64 to), .d (.int .i64 ((d : Int) + 1))] [rdr nl b 0 y] [] = some ⟨[.d (.agg x.cells), .d (.int .i64 0)], [], [rdr nl b c p], []⟩)
    (hgo : ∀ fr x nx, g fr to = .ok (x, nx) → fr < nx ∧ nx ≤ to) (hgb : ∀ fr c p, g fr to = .bad c p → 1 ≤ c) (xc xt : Int) (xm : Bool) :
    ∀ (u fr k : Nat) (acc : List Tlv) (st : St), to - fr ≤ u → u < k → fr ≤ to → acc.length + to ≤ 2097152 + fr →
      st.trim 3 [0, 3, 8, 10, 12, 13, 14] = ⟨[(0, .ptr 0 0), (3, .d (.int .i64 d)), (8, .ptr 1 0), (10, .ptr 2 0), (12, .d (.int .i64 v)), (13, .d (.int .i64 fr0)), (14, .d (.int .i64 fr))],
        [rdr nl b 0 y, some (.cells false [.d (.int .i64 0), .d (.int .i64 0), .d (.bool false), .d (.nums .u8 true []), .d (.sl 5 true [])]),
         some (.cells false [.d (.int .i64 xc), .d (.int .i64 xt), .d (.bool xm), .d (.nums .u8 true []), .d (.sl 5 acc.isEmpty (Tlv.cellsL acc))])], [.b 2 4, .b 2 3, .b 1 4, .b 1 3]⟩ →
      match kidsB g u fr to with
      | .ok l => iter (ev C F c) 3 [0, 3, 8, 10, 12, 13, 14] [8, 9, 10, 14] k st = some (.exit 0, ⟨[(8, .ptr 1 0), (10, .ptr 2 0), (14, .d (.int .i64 to))],
          [rdr nl b 0 y, some (.cells false [.d (.int .i64 0), .d (.int .i64 0), .d (.bool false), .d (.nums .u8 true []), .d (.sl 5 true [])]),
           some (.cells false [.d (.int .i64 xc), .d (.int .i64 xt), .d (.bool xm), .d (.nums .u8 true []), .d (.sl 5 (acc ++ l).isEmpty (Tlv.cellsL (acc ++ l)))])], [.b 2 4, .b 2 3, .b 1 4, .b 1 3]⟩)
      | .bad c1 p => ∃ (x : Tlv) (st' : St), iter (ev C F c) 3 [0, 3, 8, 10, 12, 13, 14] [8, 9, 10, 14] k st = some (.ret, st') ∧ finishP C 1 Tryz.f16.results.toList (some (.ret, st')) = some ⟨[.d (.agg x.cells), .d (.int .i64 0)], [], [rdr nl b c1 p], []⟩ := by
  have htt : C.tt = (envG G).tt := by rw [← hC]; rfl
  have hlin : C.lin = [115, 52, 16, 13, 128, 99, 14, 130, 98, 9, 83, 123] := by rw [← hC]; rfl
  have hreg : C.reg = reg16 := by rw [← hC]; rfl
  have hcall : C.call = callN (envG G) F (m) := by rw [← hC]; rfl
  have hcallP : C.callP = callP (envG G) F (m) := by rw [← hC]; rfl
  have hlv_25 : C.live 25 = [0, 3, 8, 10, 12, 13, 14] := by rw [← hC]; rfl
  have hlv_100025 : C.live 100025 = [8, 9, 10, 14] := by rw [← hC]; rfl
  have hev : ∀ st, ev C F c st = ev C F ((loopAt 25 Tryz.f16).getD .skip) st := fun st => by rw [hc]; rfl
  unfold rdr at hg ⊢
  intro u
  induction u with
  | zero =>
    intro fr k acc st hu hk hf ha hst
    obtain ⟨k, rfl⟩ : ∃ j, k = j + 1 := ⟨k - 1, by omega⟩
    have e0 : ¬ ((fr : Int) < (fr0 : Int) + v) := by omega
    have e3 : (fr0 : Int) + v ≤ 9223372036854775807 := by omega
    have e4 : (-9223372036854775808 : Int) ≤ (fr0 : Int) + v := by omega
    have hft : fr = to := by omega
    subst hft
    simp only [kidsB]
    rw [iter_eq, hst, hev]
    simp [loopAt, findLoop, Tryz.f16, htt, hlin, hreg, reg16, hcall, hcallP, hlv_25, hlv_100025, e0, e3, e4]
  | succ u ih =>
    intro fr k acc st hu hk hf ha hst
    obtain ⟨k, rfl⟩ : ∃ j, k = j + 1 := ⟨k - 1, by omega⟩
    have e3 : (fr0 : Int) + v ≤ 9223372036854775807 := by omega
    have e4 : (-9223372036854775808 : Int) ≤ (fr0 : Int) + v := by omega
    simp only [kidsB]
    by_cases h0 : fr < to
    case neg =>
      have e0 : ¬ ((fr : Int) < (fr0 : Int) + v) := by omega
      have hft : fr = to := by omega
      subst hft
      rw [if_neg h0]
      rw [iter_eq, hst, hev]
      simp [loopAt, findLoop, Tryz.f16, htt, hlin, hreg, reg16, hcall, hcallP, hlv_25, hlv_100025, e0, e3, e4]
    case pos =>
      have e0 : ((fr : Int) < (to : Int)) := by omega
      have e3 : (to : Int) ≤ 9223372036854775807 := by omega
      have e4 : (-9223372036854775808 : Int) ≤ (to : Int) := by omega
      have e1 : (d : Int) + 1 ≤ 9223372036854775807 := by omega
      have e2 : (-9223372036854775808 : Int) ≤ (d : Int) + 1 := by omega
      have e5 : (fr0 : Int) + v = to := by omega
      rw [if_pos h0]
      have hc1 := hg fr hf
      cases hgr : g fr to with
      | bad c1 p =>
        rw [hgr] at hc1
        obtain ⟨x, hc1⟩ := hc1
        have hc0 := hgb _ _ _ hgr
        have hc2 : ¬ c1 = 0 := by omega
        refine ⟨.mk xc xt xm true [] acc.isEmpty acc, ?_⟩
        obtain ⟨x1, x2, x3, xbn, xb, xkn, xks⟩ := x
        simp only [Tlv.cells] at hc1 ⊢
        rw [iter_eq, hst, hev]
        cases xkn <;> cases xbn <;>
        simp [loopAt, findLoop, Tryz.f16, htt, hlin, hreg, reg16, hcall, hcallP, hlv_25, hlv_100025, e0, e1, e2, e3, e4, e5, hc1, hc2]
      | ok r =>
        obtain ⟨x, nx⟩ := r
        rw [hgr] at hc1
        simp only at hc1
        obtain ⟨hlo, hhi⟩ := hgo fr x nx hgr
        have ih' := fun st h => ih nx k (acc ++ [x]) st (by omega) (by omega) hhi (by simp; omega) h
        have hsn := cellsL_snoc acc x
        obtain ⟨x1, x2, x3, xbn, xb, xkn, xks⟩ := x
        simp only [Tlv.cells] at hc1 hsn
        have hal : (acc.length + 1) * 72 ≤ 140737488355328 := by omega
        have hal2 : acc.length ≤ 140737488355327 := by omega
        have hl := cellsL_len acc
        cases hk2 : kidsB g u nx to with
        | ok l =>
          rw [hk2] at ih'
          simp only [hgr, hk2]
          rw [iter_eq, hst, hev]
          cases xkn <;> cases xbn <;>
          (simp [loopAt, findLoop, Tryz.f16, htt, hlin, hreg, reg16, hcall, hcallP, hlv_25, hlv_100025, e0, e1, e2, e3, e4, e5, hc1, hl, hsn, hal, hal2]
           simp at ih'
           exact ih' _ (by simp))
        | bad c1 p =>
          rw [hk2] at ih'
          simp only [hgr, hk2]
          rw [iter_eq, hst, hev]
          cases xkn <;> cases xbn <;>
          (simp [loopAt, findLoop, Tryz.f16, htt, hlin, hreg, reg16, hcall, hcallP, hlv_25, hlv_100025, e0, e1, e2, e3, e4, e5, hc1, hl, hsn, hal, hal2]
           simp [Tryz.f16, htt, hlin, hreg, reg16, hcall, hcallP, hlv_25, hlv_100025] at ih'
           exact ih' _ (by simp))
end Go.Proofs.YtjmcgdhekjkjfaaGreatDoor
set_option linter.unusedSimpArgs false
set_option linter.unusedVariables false
namespace Go.Proofs.YtjmcgdhekjkjfaaGreatDoor
open Go Go.VM
variable {G : GE}
set_option maxRecDepth 100000
set_option maxHeartbeats 4000000
theorem t_relem (F : Nat) (hF : 1048580 < F) (b : List Int) (nl : Bool) (hnl : nl = true → b = []) (hb : ∀ c ∈ b, 0 ≤ c ∧ c < 256) (hlen : b.length ≤ 1048576) (y : Int) :
    ∀ (d e n i stop : Nat), d + e = 16 → stop ≤ b.length → i ≤ stop →
    match elemB b d i stop with
    | .ok (x, nx) => callP (envG G) F (n + d + 3) 16 [.ptr 0 0, .d (.int .i64 i), .d (.int .i64 stop), .d (.int .i64 e)] [rdr nl b 0 y] [] = some ⟨[.d (.agg x.cells), .d (.int .i64 nx)], [], [rdr nl b 0 y], []⟩
    | .bad c p => ∃ x : Tlv, callP (envG G) F (n + d + 3) 16 [.ptr 0 0, .d (.int .i64 i), .d (.int .i64 stop), .d (.int .i64 e)] [rdr nl b 0 y] [] = some ⟨[.d (.agg x.cells), .d (.int .i64 0)], [], [rdr nl b c p], []⟩ := by
  intro d
  induction d with
  | zero =>
    intro e n i stop he hs hi
    have ks : ∀ c p, callP (envG G) F (n + 2) _ _ _ _ = _ := fun c p => t_rfail (G := G) F (n + 1) nl b 0 y c p
    simp only [elemB]
    rw [show n + 0 + 3 = n + 2 + 1 by omega]
    rw [callP_run (fn := Tryz.f16) rfl rfl rfl (by simp [Tryz.ntmps16])]
    generalize hC : (envG G).ctx 16 (callN (envG G) F (n+2)) (callP (envG G) F (n+2)) = C
    have htt : C.tt = (envG G).tt := by rw [← hC]; rfl
    have hlin : C.lin = [115, 52, 16, 13, 128, 99, 14, 130, 98, 9, 83, 123] := by rw [← hC]; rfl
    have hreg : C.reg = reg16 := by rw [← hC]; rfl
    have hcall : C.call = callN (envG G) F (n+2) := by rw [← hC]; rfl
    have hcallP : C.callP = callP (envG G) F (n+2) := by rw [← hC]; rfl
    have hlv_25 : C.live 25 = [0, 3, 8, 10, 12, 13, 14] := by rw [← hC]; rfl
    have hlv_100025 : C.live 100025 = [8, 9, 10, 14] := by rw [← hC]; rfl
    unfold rdr at ks ⊢
    have h1 : (16 : Int) ≤ (e : Int) := by omega
    refine ⟨zeroT, ?_⟩
    simp only [zeroT, Tlv.cells, Tlv.cellsL]
    simp [htt, hlin, hreg, reg16, hcall, hcallP, hlv_25, hlv_100025, ks, h1]
  | succ d ih =>
    intro e n i stop he hs hi
    have ks : ∀ c p, callP (envG G) F (n + d + 3) _ _ _ _ = _ := fun c p => t_rfail (G := G) F (n + d + 2) nl b 0 y c p
    have kl : callP (envG G) F (n + d + 3) _ _ _ _ = _ := t_rlength (G := G) F (n + d + 1) (by omega) b nl hb hlen (i + 1) stop hs (by omega) y
    rw [show ((i + 1 : Nat) : Int) = (i : Int) + 1 by omega] at kl
    have g0 := byteAt_ok hb i
    rw [show n + (d + 1) + 3 = n + d + 3 + 1 by omega]
    rw [callP_run (fn := Tryz.f16) rfl rfl rfl (by simp [Tryz.ntmps16])]
    generalize hC : (envG G).ctx 16 (callN (envG G) F (n+d+3)) (callP (envG G) F (n+d+3)) = C
    have htt : C.tt = (envG G).tt := by rw [← hC]; rfl
    have hlin : C.lin = [115, 52, 16, 13, 128, 99, 14, 130, 98, 9, 83, 123] := by rw [← hC]; rfl
    have hreg : C.reg = reg16 := by rw [← hC]; rfl
    have hcall : C.call = callN (envG G) F (n+d+3) := by rw [← hC]; rfl
    have hcallP : C.callP = callP (envG G) F (n+d+3) := by rw [← hC]; rfl
    have hlv_25 : C.live 25 = [0, 3, 8, 10, 12, 13, 14] := by rw [← hC]; rfl
    have hlv_100025 : C.live 100025 = [8, 9, 10, 14] := by rw [← hC]; rfl
    have h1 : ¬ (16 : Int) ≤ (e : Int) := by omega
    have e1 : (i : Int) + 1 ≤ 9223372036854775807 := by omega
    have e2 : (-9223372036854775808 : Int) ≤ (i : Int) + 1 := by omega
    simp only [elemB]
    by_cases c1 : stop ≤ i
    · have f1 : (stop : Int) ≤ (i : Int) := by omega
      rw [if_pos c1]
      refine ⟨zeroT, ?_⟩
      unfold rdr at ks ⊢
      simp only [zeroT, Tlv.cells, Tlv.cellsL]
      simp [htt, hlin, hreg, reg16, hcall, hcallP, hlv_25, hlv_100025, ks, h1, f1]
    · have f1 : ¬ (stop : Int) ≤ (i : Int) := by omega
      have r0 := byteAt_get (b := b) (i := i) (by omega)
      have hnf : nl = false := by
        cases nl with
        | false => rfl
        | true => rw [hnl rfl] at hs; simp at hs; omega
      rw [if_neg c1]
      have e11 : byteAt b i ≤ 9223372036854775807 := by omega
      have e12 : (-9223372036854775808 : Int) ≤ byteAt b i := by omega
      have t1 : (byteAt b i).tmod 32 = byteAt b i % 32 := Int.tmod_eq_emod_of_nonneg g0.1
      have t2 : (byteAt b i).tdiv 64 = byteAt b i / 64 := Int.tdiv_eq_ediv_of_nonneg g0.1
      have t3 : (byteAt b i).tdiv 32 = byteAt b i / 32 := Int.tdiv_eq_ediv_of_nonneg g0.1
      have t4 : (byteAt b i / 32).tmod 2 = byteAt b i / 32 % 2 := Int.tmod_eq_emod_of_nonneg (by omega)
      have e5 : byteAt b i / 64 ≤ 9223372036854775807 := by omega
      have e6 : (-9223372036854775808 : Int) ≤ byteAt b i / 64 := by omega
      have e7 : byteAt b i % 32 ≤ 9223372036854775807 := by omega
      have e8 : (-9223372036854775808 : Int) ≤ byteAt b i % 32 := by omega
      have e9 : byteAt b i / 32 ≤ 9223372036854775807 := by omega
      have e10 : (-9223372036854775808 : Int) ≤ byteAt b i / 32 := by omega
      have e13 : byteAt b i / 32 % 2 ≤ 9223372036854775807 := by omega
      have e14 : (-9223372036854775808 : Int) ≤ byteAt b i / 32 % 2 := by omega
      by_cases c2 : byteAt b i % 32 = 31
      · rw [if_pos c2]
        refine ⟨zeroT, ?_⟩
        unfold rdr at ks ⊢
        simp only [zeroT, Tlv.cells, Tlv.cellsL]
        simp [htt, hlin, hreg, reg16, hcall, hcallP, hlv_25, hlv_100025, ks, h1, f1, r0, e7, e8, e11, e12, t1, c2]
      · rw [if_neg c2]
        simp only [spanB]
        generalize hsp : lenB b (i + 1) stop = sp at *
        cases sp with
        | bad c p =>
          have hcp : ¬ c = 0 := by
            have := @elemB_place b (d + 1) i stop c p (by simp only [elemB, if_neg c1, if_neg c2, spanB, hsp])
            omega
          simp only [rlenV] at kl
          simp only
          refine ⟨zeroT, ?_⟩
          unfold rdr at ks kl ⊢
          simp only [zeroT, Tlv.cells, Tlv.cellsL]
          simp [htt, hlin, hreg, reg16, hcall, hcallP, hlv_25, hlv_100025, ks, h1, f1, r0, e1, e2, e7, e8, e11, e12, t1, c2, kl, hcp]
        | ok ft =>
          obtain ⟨v, fr⟩ := ft
          have hp := lenB_ok hb hs hsp
          simp only [rlenV] at kl
          simp only
          have e15 : (fr : Int) + v ≤ 9223372036854775807 := by omega
          have e16 : (-9223372036854775808 : Int) ≤ (fr : Int) + v := by omega
          by_cases c4 : stop < fr + v
          · have f4 : (stop : Int) < (fr : Int) + v := by omega
            rw [if_pos c4]
            simp only
            refine ⟨zeroT, ?_⟩
            unfold rdr at ks kl ⊢
            simp only [zeroT, Tlv.cells, Tlv.cellsL, Int.natCast_add, Int.cast_ofNat_Int]
            simp [htt, hlin, hreg, reg16, hcall, hcallP, hlv_25, hlv_100025, ks, h1, f1, f4, r0, e1, e2, e7, e8, e11, e12, e15, e16, t1, c2, kl]
          · have f4 : ¬ (stop : Int) < (fr : Int) + v := by omega
            rw [if_neg c4]
            simp only
            by_cases c3 : byteAt b i / 32 % 2 = 1
            case neg =>
              rw [if_neg c3]
              have f2 : (fr : Int) ≤ (fr : Int) + v := by omega
              have f3 : (fr : Int) + v ≤ b.length := by omega
              have n1 : ((fr : Int) + v).toNat = fr + v := by omega
              have hll : ((b.take (fr + v)).drop fr).length ≤ 140737488355327 := by simp; omega
              have hdt : (b.take (fr + v)).drop fr = (b.drop fr).take (fr + v - fr) := by rw [List.drop_take]
              rw [← hdt]
              generalize hus : (b.take (fr + v)).drop fr = us at *
              have hll2 : us.length ≤ 140737488355328 := by omega
              subst hnf
              unfold rdr at ks kl ⊢
              simp only [Tlv.cells, Tlv.cellsL, Int.natCast_add]
              simp [htt, hlin, hreg, reg16, hcall, hcallP, hlv_25, hlv_100025, ks, h1, f1, f2, f3, f4, n1, r0, e1, e2, e5, e6, e7, e8, e9, e10, e11, e12, e13, e14, e15, e16, t1, t2, t3, t4, c2, c3, kl, hus, hll, hll2]
            case pos =>
              rw [if_pos c3]
              have hL := fun st h => loop_relem (G := G) hC rfl b nl e v fr (fr + v) y (by omega) (by omega) rfl (elemB b d) (fun fr2 hfr => by
                  have := ih (e + 1) n fr2 (fr + v) (by omega) (by omega) hfr
                  rw [show ((e + 1 : Nat) : Int) = (e : Int) + 1 by omega] at this
                  exact this)
                (fun fr2 x nx h => by have := elemB_ok hb d fr2 (fr + v) x nx (by omega) h; exact ⟨by have := this.lo; omega, this.hi⟩)
                (fun fr2 c p h => (elemB_place h).2.1)
                (byteAt b i / 64) (byteAt b i % 32) true (fr + v - fr) fr F [] st (by omega) (by omega) (by omega) (by simp; omega) h
              generalize kidsB (elemB b d) (fr + v - fr) fr (fr + v) = kr at *
              clear hC ih
              cases kr with
              | ok l =>
                simp [Tlv.cellsL] at hL
                simp only [Tlv.cells]
                unfold rdr at ks kl hL ⊢
                simp [htt, hlin, hreg, reg16, hcall, hcallP, hlv_25, hlv_100025, ks, h1, f1, f4, r0, e1, e2, e5, e6, e7, e8, e9, e10, e11, e12, e13, e14, e15, e16, t1, t2, t3, t4, c2, c3, kl, ev_loop]
                rw [hL _ (by simp [Tlv.cellsL])]
                simp [htt, hlin, hreg, reg16, hcall, hcallP, hlv_25, hlv_100025]
              | bad c p =>
                simp only at hL
                have hL2 := fun st h => Classical.choose_spec (Classical.choose_spec (hL st h))
                simp only at hL2 ⊢
                unfold rdr at ks kl hL2 ⊢
                simp [htt, hlin, hreg, reg16, hcall, hcallP, hlv_25, hlv_100025, ks, h1, f1, f4, r0, e1, e2, e5, e6, e7, e8, e9, e10, e11, e12, e13, e14, e15, e16, t1, t2, t3, t4, c2, c3, kl, ev_loop]
                apply Exists.intro
                rw [(hL2 _ (by simp [Tlv.cellsL])).1]
                exact (hL2 _ (by simp [Tlv.cellsL])).2
end Go.Proofs.YtjmcgdhekjkjfaaGreatDoor
set_option linter.unusedSimpArgs false
set_option linter.unusedVariables false
namespace Go.Proofs.YtjmcgdhekjkjfaaGreatDoor
open Go Go.VM
variable {G : GE}
set_option maxRecDepth 100000
set_option maxHeartbeats 4000000
def rparseV : Res Tlv → List V
  | .ok x => [.d (.agg x.cells), .d (.int .i64 0), .d (.int .i64 (-1))]
  | .bad c p => [.d (.agg zeroT.cells), .d (.int .i64 c), .d (.int .i64 p)]
theorem t_rParse (F : Nat) (hF : 1048580 < F) (n : Nat) (b : List Int) (nl : Bool) (hnl : nl = true → b = []) (hb : ∀ c ∈ b, 0 ≤ c ∧ c < 256) :
    callN (envG G) F (n + 20) 7 [.d (.nums .u8 nl b)] = some ⟨rparseV (parseB b), []⟩ := by
  have ke := fun (h : b.length ≤ 1048576) => t_relem (G := G) F hF b nl hnl hb h 0 16 0 n 0 b.length (by omega) (by omega) (by omega)
  have kp := @elemB_place b 16 0 b.length
  have ko := fun x e => elemB_ok hb 16 0 b.length x e (Nat.le_refl _)
  rw [callN_run (fn := Tryz.f7) rfl rfl rfl (by simp [Tryz.ntmps7])]
  generalize hC : (envG G).ctx 7 (callN (envG G) F (n+19)) (callP (envG G) F (n+19)) = C
  have htt : C.tt = (envG G).tt := by rw [← hC]; rfl
  have hlin : C.lin = [] := by rw [← hC]; rfl
  have hreg : C.reg = reg7 := by rw [← hC]; rfl
  have hcall : C.call = callN (envG G) F (n+19) := by rw [← hC]; rfl
  have hcallP : C.callP = callP (envG G) F (n+19) := by rw [← hC]; rfl
  have hlv_200006 : C.live 200006 = [4, 8, 9] := by rw [← hC]; rfl
  have hlv_250006 : C.live 250006 = [] := by rw [← hC]; rfl
  have hlv_300006 : C.live 300006 = [2] := by rw [← hC]; rfl
  unfold parseB
  by_cases c1 : 1048576 < b.length
  · have f1 : (1048576 : Int) < b.length := by omega
    simp only [if_pos c1, rparseV, zeroT, Tlv.cells, Tlv.cellsL]
    simp [htt, hlin, hreg, reg7, hcall, hcallP, hlv_200006, hlv_250006, hlv_300006, f1]
  · have f1 : ¬ (1048576 : Int) < b.length := by omega
    have ke' := ke (by omega)
    clear ke
    rw [if_neg c1]
    unfold rdr at ke'
    generalize elemB b 16 0 b.length = r at *
    cases r with
    | bad c p =>
      have hp := kp rfl
      have hc : ¬ c = 0 := by omega
      simp only at ke'
      obtain ⟨x, ke'⟩ := ke'
      simp only [rparseV, zeroT, Tlv.cells, Tlv.cellsL]
      obtain ⟨xc, xt, xm, xbn, xb, xkn, xks⟩ := x
      simp only [Tlv.cells] at ke'
      simp at ke'
      cases xkn <;> cases xbn <;>
      simp [htt, hlin, hreg, reg7, hcall, hcallP, hlv_200006, hlv_250006, hlv_300006, f1, ke', hc]
    | ok r =>
      obtain ⟨x, e⟩ := r
      have hx := ko x e rfl
      have hh := hx.hi
      clear ko kp hx
      obtain ⟨xc, xt, xm, xbn, xb, xkn, xks⟩ := x
      simp only [Tlv.cells] at ke'
      simp at ke'
      by_cases c2 : e < b.length
      · have f2 : (e : Int) < b.length := by omega
        simp only [if_pos c2, rparseV, zeroT, Tlv.cells, Tlv.cellsL]
        cases xkn <;> cases xbn <;>
        simp [htt, hlin, hreg, reg7, hcall, hcallP, hlv_200006, hlv_250006, hlv_300006, f1, ke', f2]
      · have f2 : ¬ (e : Int) < b.length := by omega
        simp only [if_neg c2, rparseV, Tlv.cells]
        cases xkn <;> cases xbn <;>
        simp [htt, hlin, hreg, reg7, hcall, hcallP, hlv_200006, hlv_250006, hlv_300006, f1, ke', f2]
end Go.Proofs.YtjmcgdhekjkjfaaGreatDoor
set_option linter.unusedSimpArgs false
set_option linter.unusedVariables false
namespace Go.Proofs.YtjmcgdhekjkjfaaGreatDoor
open Go Go.VM
variable {G : GE}
set_option maxRecDepth 100000
set_option maxHeartbeats 4000000
theorem t_r14Scalar (F n : Nat) (d : List Int) (h : d.length ≤ 140737488355328) (h2 : d.length < F) : callN (envG G) F (n+2) 53 [.d (.nums .u64 false d)] = some ⟨[.d (.bool (!decide (d = []) && decide (cmpL d nL < 0)))], []⟩ := by
  have k1 := t_rN (G := G) F n
  have k2 := t_Cmp (G := G) F n false false d nL h h2
  generalize cmpL d nL = q at *
  rw [callN_run (fn := Tryz.f53) rfl rfl rfl (by simp [Tryz.ntmps53])]
  generalize hC : (envG G).ctx 53 (callN (envG G) F (n+1)) (callP (envG G) F (n+1)) = C
  have htt : C.tt = (envG G).tt := by rw [← hC]; rfl
  have hlin : C.lin = [] := by rw [← hC]; rfl
  have hreg : C.reg = reg53 := by rw [← hC]; rfl
  have hcall : C.call = callN (envG G) F (n+1) := by rw [← hC]; rfl
  have hcallP : C.callP = callP (envG G) F (n+1) := by rw [← hC]; rfl
  clear hC
  cases d with
  | nil => simp [htt, hlin, hreg, reg53, hcall, hcallP]
  | cons x t =>
    have e1 : (0 : Int) < (t.length : Int) + 1 := by omega
    simp [htt, hlin, hreg, reg53, hcall, hcallP, k1, k2, e1]
theorem scal_eq {a : List Int} (ha : In64 a) : (!decide (trimL (halves a) = []) && decide (cmpL (trimL (halves a)) nL < 0)) = isScalar a := by
  have h1 := canon_nil (trimL_canon (halves_in a ha))
  rw [vL_trim, vL_halves] at h1
  unfold isScalar
  rw [cmp_scalar ha, decide_eq_decide.2 h1]
theorem t_r14Encode (F : Nat) (hF : 1048580 < F) (hF2 : F ≤ 140737488355328) (n : Nat) (a0 a1 a2 a3 a4 a5 b0 b1 b2 b3 b4 b5 : Int) (ha : In64 [a0, a1, a2, a3, a4, a5]) (hb : In64 [b0, b1, b2, b3, b4, b5]) :
    callN (envG G) F (n + 30) 26 [.d (sigD [a0, a1, a2, a3, a4, a5] [b0, b1, b2, b3, b4, b5])] = some (if isScalar [a0, a1, a2, a3, a4, a5] = true ∧ isScalar [b0, b1, b2, b3, b4, b5] = true then ⟨[.d (.nums .u8 false (sigT [a0, a1, a2, a3, a4, a5] [b0, b1, b2, b3, b4, b5]).enc), .d (.bool true)], []⟩ else ⟨[.d (.nums .u8 true []), .d (.bool false)], []⟩) := by
  have o1 : callN (envG G) F (n + 29) _ _ = _ := t_Of6 (G := G) F (n + 26) (by omega) a0 a1 a2 a3 a4 a5 ha
  have o2 : callN (envG G) F (n + 29) _ _ = _ := t_Of6 (G := G) F (n + 26) (by omega) b0 b1 b2 b3 b4 b5 hb
  have hd : ∀ a : List Int, a.length = 6 → (trimL (halves a)).length ≤ 12 := fun a h => by
    have h1 := trimL_len (halves a)
    have h2 := cutL_le (halves a) (halves a).length
    obtain ⟨a0, a1, a2, a3, a4, a5, rfl⟩ := six h
    have h3 : (halves [a0, a1, a2, a3, a4, a5]).length = 12 := rfl
    omega
  have d1 := hd [a0, a1, a2, a3, a4, a5] rfl
  have d2 := hd [b0, b1, b2, b3, b4, b5] rfl
  have s1 : callN (envG G) F (n + 29) _ _ = _ := t_r14Scalar (G := G) F (n + 27) (trimL (halves [a0, a1, a2, a3, a4, a5])) (by omega) (by omega)
  have s2 : callN (envG G) F (n + 29) _ _ = _ := t_r14Scalar (G := G) F (n + 27) (trimL (halves [b0, b1, b2, b3, b4, b5])) (by omega) (by omega)
  rw [scal_eq ha] at s1
  rw [scal_eq hb] at s2
  have y1 : callN (envG G) F (n + 29) _ _ = _ := t_rBytes (G := G) F (n + 26) (by omega) ha rfl
  have y2 : callN (envG G) F (n + 29) _ _ = _ := t_rBytes (G := G) F (n + 26) (by omega) hb rfl
  have m1 : callN (envG G) F (n + 29) _ _ = _ := t_rNumberOf (G := G) F (n + 28) false (B6 [a0, a1, a2, a3, a4, a5]) (by rw [B6_len]; omega) (by rw [B6_len]; omega)
  have m2 : callN (envG G) F (n + 29) _ _ = _ := t_rNumberOf (G := G) F (n + 28) false (B6 [b0, b1, b2, b3, b4, b5]) (by rw [B6_len]; omega) (by rw [B6_len]; omega)
  rw [numberOf_B6] at m1 m2
  simp only at m1 m2
  obtain ⟨t1, t2, t3, t4⟩ := sigT_ok ha hb
  have hw := weight_width (W := 1048576) (sigT [a0, a1, a2, a3, a4, a5] [b0, b1, b2, b3, b4, b5]) (by omega)
  have hle := enc_le (sigT [a0, a1, a2, a3, a4, a5] [b0, b1, b2, b3, b4, b5])
  have hbw : badW (sigT [a0, a1, a2, a3, a4, a5] [b0, b1, b2, b3, b4, b5]) = 0 := by
    unfold badW
    rw [if_neg (by simp [t1]), if_neg (by omega), if_neg (by omega)]
  have w1 : callN (envG G) F (n + 29) _ _ = _ := t_rWrite (G := G) F hF2 1048576 (by omega) 16 (n + 12) (sigT [a0, a1, a2, a3, a4, a5] [b0, b1, b2, b3, b4, b5]) (by omega) t2 hw (by omega)
  rw [hbw] at w1
  simp only [if_true] at w1
  clear t1 t2 t3 t4 hw hle hbw
  generalize (sigT [a0, a1, a2, a3, a4, a5] [b0, b1, b2, b3, b4, b5]).enc = en at *
  clear ha hb
  simp only [sigT, nT, Tlv.cells, Tlv.cellsL] at w1
  generalize bodyN [a0, a1, a2, a3, a4, a5] = u at *
  generalize bodyN [b0, b1, b2, b3, b4, b5] = w at *
  generalize isScalar [a0, a1, a2, a3, a4, a5] = sa at *
  generalize isScalar [b0, b1, b2, b3, b4, b5] = sb at *
  generalize trimL (halves [a0, a1, a2, a3, a4, a5]) = h1 at *
  generalize trimL (halves [b0, b1, b2, b3, b4, b5]) = h2 at *
  generalize B6 [a0, a1, a2, a3, a4, a5] = q1 at *
  generalize B6 [b0, b1, b2, b3, b4, b5] = q2 at *
  simp only [limbD, sigD, List.map, List.cons_append, List.nil_append] at *
  cases sa
  · skip
    rw [callN_run (fn := Tryz.f26) rfl rfl rfl (by simp [Tryz.ntmps26])]
    generalize hC : (envG G).ctx 26 (callN (envG G) F (n+29)) (callP (envG G) F (n+29)) = C
    have htt : C.tt = (envG G).tt := by rw [← hC]; rfl
    have hlin : C.lin = [] := by rw [← hC]; rfl
    have hreg : C.reg = reg26 := by rw [← hC]; rfl
    have hcall : C.call = callN (envG G) F (n+29) := by rw [← hC]; rfl
    have hcallP : C.callP = callP (envG G) F (n+29) := by rw [← hC]; rfl
    clear hC
    simp [htt, hlin, hreg, reg26, hcall, hcallP, o1, s1]
  · cases sb
    · skip
      rw [callN_run (fn := Tryz.f26) rfl rfl rfl (by simp [Tryz.ntmps26])]
      generalize hC : (envG G).ctx 26 (callN (envG G) F (n+29)) (callP (envG G) F (n+29)) = C
      have htt : C.tt = (envG G).tt := by rw [← hC]; rfl
      have hlin : C.lin = [] := by rw [← hC]; rfl
      have hreg : C.reg = reg26 := by rw [← hC]; rfl
      have hcall : C.call = callN (envG G) F (n+29) := by rw [← hC]; rfl
      have hcallP : C.callP = callP (envG G) F (n+29) := by rw [← hC]; rfl
      clear hC
      simp [htt, hlin, hreg, reg26, hcall, hcallP, o1, s1, o2, s2]
    · skip
      rw [callN_run (fn := Tryz.f26) rfl rfl rfl (by simp [Tryz.ntmps26])]
      generalize hC : (envG G).ctx 26 (callN (envG G) F (n+29)) (callP (envG G) F (n+29)) = C
      have htt : C.tt = (envG G).tt := by rw [← hC]; rfl
      have hlin : C.lin = [] := by rw [← hC]; rfl
      have hreg : C.reg = reg26 := by rw [← hC]; rfl
      have hcall : C.call = callN (envG G) F (n+29) := by rw [← hC]; rfl
      have hcallP : C.callP = callP (envG G) F (n+29) := by rw [← hC]; rfl
      clear hC
      simp [htt, hlin, hreg, reg26, hcall, hcallP, o1, s1, o2, s2, y1, y2, m1, m2, w1]
end Go.Proofs.YtjmcgdhekjkjfaaGreatDoor
set_option linter.unusedSimpArgs false
set_option linter.unusedVariables false
namespace Go.Proofs.YtjmcgdhekjkjfaaGreatDoor
open Go Go.VM
variable {G : GE}
set_option maxRecDepth 100000
set_option maxHeartbeats 8000000
theorem run_EqualFunc (n1 n2 : Bool) : callN (envG G) 2 1 33 [.d (.sl 5 n1 []), .d (.sl 5 n2 []), .fn 34 []] = some ⟨[.d (.bool true)], []⟩ := by kernel_rfl
theorem t_EqualFunc (F n : Nat) (hF : 2 ≤ F) (n1 n2 : Bool) : callN (envG G) F (n+1) 33 [.d (.sl 5 n1 []), .d (.sl 5 n2 []), .fn 34 []] = some ⟨[.d (.bool true)], []⟩ :=
  callN_mono hF (show 1 ≤ n + 1 by omega) (run_EqualFunc (G := G) n1 n2)
def sigParts : Tlv → Option (Tlv × List Int × List Int)
  | .mk c t m _ _ _ [k0, k1] => if c = 0 ∧ t = 16 ∧ m = true then (match k1.bits with
    | some b => (match sigB b with
      | some (r, s) => some (k0, r, s)
      | none => none)
    | none => none) else none
  | _ => none
theorem sigOf_six {x : Tlv} {r s : List Int} (h : sigOf x = .inr (r, s)) : r.length = 6 ∧ s.length = 6 := by
  obtain ⟨x1, x2, x3, x4, x5, x6, x7⟩ := x
  rcases x7 with _ | ⟨k0, _ | ⟨k1, _ | ⟨k2, t⟩⟩⟩
  · cases h
  · cases h
  · simp only [sigOf] at h
    split at h
    · split at h
      · split at h
        · injection h with h
          injection h with h1 h2
          rw [← h1, ← h2]
          exact ⟨L6_len _, L6_len _⟩
        · cases h
      · cases h
    · cases h
  · cases h
theorem sigV_cases (b : List Int) : (∃ r0 r1 r2 r3 r4 r5 s0 s1 s2 s3 s4 s5, sigB b = some ([r0, r1, r2, r3, r4, r5], [s0, s1, s2, s3, s4, s5]) ∧ sigV (parseB b) = [.d (sigD [r0, r1, r2, r3, r4, r5] [s0, s1, s2, s3, s4, s5]), .d .nilifc]) ∨ (sigB b = none ∧ ∃ t d, sigV (parseB b) = [.d noSig, .d (.ifc t d)]) := by
  unfold sigB
  cases hp : parseB b with
  | bad c p =>
    right
    refine ⟨rfl, ?_⟩
    simp only [sigV, atD]
    split
    · exact ⟨_, _, rfl⟩
    · exact ⟨_, _, rfl⟩
  | ok x =>
    simp only [sigV]
    cases hs : sigOf x with
    | inl e => exact .inr ⟨rfl, _, _, rfl⟩
    | inr q =>
      obtain ⟨r, s⟩ := q
      obtain ⟨h1, h2⟩ := sigOf_six hs
      obtain ⟨r0, r1, r2, r3, r4, r5, rfl⟩ := six h1
      obtain ⟨s0, s1, s2, s3, s4, s5, rfl⟩ := six h2
      exact .inl ⟨_, _, _, _, _, _, _, _, _, _, _, _, rfl, rfl⟩
theorem bits_bytes {x : Tlv} {t : List Int} (h : x.plainOk) (hb : x.bits = some t) : ∀ c ∈ t, 0 ≤ c ∧ c < 256 := by
  obtain ⟨x1, x2, x3, x4, x5, x6, x7⟩ := x
  simp only [Tlv.plainOk] at h
  unfold Tlv.bits at hb
  split at hb
  · rename_i heq
    cases heq
    split at hb
    · injection hb with hb
      subst hb
      exact fun c hc => h.2.2 c (List.mem_cons_of_mem _ hc)
    · cases hb
  · cases hb
def partsV : Option (Tlv × List Int × List Int) → List V
  | some (k0, r, s) => [.d (.agg k0.cells), .d (.nums .u8 false k0.enc), .d (sigD r s), .d (.bool true)]
  | none => [.d (.agg zeroT.cells), .d (.nums .u8 true []), .d noSig, .d (.bool false)]
theorem t_Parts0 (hK : SubK G) (hg : GroupG G) (F : Nat) (hF : 1048580 < F) (hF2 : F ≤ 140737488355328) (n : Nat) (x : Tlv)
    (hk : ∀ y ∈ x.kids, y.plainOk ∧ y.fine = true ∧ y.depth ≤ 16 ∧ y.weight ≤ 1048576 ∧ y.enc.length ≤ 1048576) :
    callN (envG G) F (n + 80) 15 [.d (.agg x.cells), .d (.sl 5 true [])] = some ⟨partsV (sigParts x), []⟩ := by
  have hd : ∀ (nl : Bool) (b : List Int) (h : nl = true → b = []) (h2 : ∀ c ∈ b, 0 ≤ c ∧ c < 256), callN (envG G) F (n + 79) _ _ = _ := fun nl b h h2 => t_eDecode (G := G) hK hg F hF (n + 49) b nl h h2
  have hl : ∀ x1 x2 x3 x4 x5 x6 x7 k, callN (envG G) F (n + 79) _ _ = _ := fun x1 x2 x3 x4 x5 x6 x7 k => t_IsList (G := G) F (n + 78) x1 x2 x3 x4 x5 x6 x7 k
  have he : ∀ n1 n2, callN (envG G) F (n + 79) _ _ = _ := fun n1 n2 => t_EqualFunc (G := G) F (n + 78) (by omega) n1 n2
  have hb : ∀ (x : Tlv) (h : x.plainOk), ∃ nl ys, callN (envG G) F (n + 79) _ _ = _ ∧ _ := fun x h => t_BitsOf (G := G) F (n + 76) x h
  have hw : ∀ y : Tlv, y.fine = true → y.depth ≤ 16 → y.weight ≤ 1048576 → y.enc.length ≤ 1048576 → callN (envG G) F (n + 79) 37 [.d (.agg y.cells)] = some ⟨[.d (.nums .u8 false y.enc), .d .nilifc], [0]⟩ := fun y h1 h2 h3 h4 => by
    have hbw : badW y = 0 := by
      unfold badW
      rw [if_neg (by simp [h1]), if_neg (by omega), if_neg (by omega)]
    have k : callN (envG G) F (n + 79) _ _ = _ := t_Write (G := G) F hF2 1048576 (by omega) (by omega) 16 (n + 13) y (by omega) h2 (weight_width (W := 1048576) y h3)
    rw [hbw] at k
    simpa [errD] using k
  clear hK hg
  obtain ⟨x1, x2, x3, x4, x5, x6, x7⟩ := x
  simp only [Tlv.kids] at hk
  have hl := hl x1 x2 x3 x4 x5 x6 x7 2
  simp only [Tlv.cells]
  have hc7 := cellsL_len x7
  by_cases h : x1 = 0 ∧ x2 = 16 ∧ x3 = true ∧ x7.length = 2
  case neg =>
    have hs : sigParts (.mk x1 x2 x3 x4 x5 x6 x7) = none := by
      rcases x7 with _ | ⟨k0, _ | ⟨k1, _ | ⟨k2, t⟩⟩⟩
      · rfl
      · rfl
      · simp only [sigParts]
        rw [if_neg (fun h2 => h ⟨h2.1, h2.2.1, h2.2.2, rfl⟩)]
      · rfl
    have h' : ¬ (x1 = 0 ∧ x2 = 16 ∧ x3 = true ∧ ((2 : Int) < 0 ∨ (x7.length : Int) = 2)) := fun h2 => h ⟨h2.1, h2.2.1, h2.2.2.1, by omega⟩
    rw [decide_eq_false h'] at hl
    simp only [hs, partsV, zeroT, noSig, sigD, Tlv.cells, Tlv.cellsL, List.map, List.cons_append, List.nil_append]
    rw [callN_run (fn := Tryz.f15) rfl rfl rfl (by simp [Tryz.ntmps15])]
    generalize hC : (envG G).ctx 15 (callN (envG G) F (n+79)) (callP (envG G) F (n+79)) = C
    have htt : C.tt = (envG G).tt := by rw [← hC]; rfl
    have hlin : C.lin = [] := by rw [← hC]; rfl
    have hreg : C.reg = reg15 := by rw [← hC]; rfl
    have hcall : C.call = callN (envG G) F (n+79) := by rw [← hC]; rfl
    have hcallP : C.callP = callP (envG G) F (n+79) := by rw [← hC]; rfl
    have hlv_200011 : C.live 200011 = [5, 8] := by rw [← hC]; rfl
    have hlv_250011 : C.live 250011 = [] := by rw [← hC]; rfl
    have hlv_300011 : C.live 300011 = [4] := by rw [← hC]; rfl
    clear hC
    simp [htt, hlin, hreg, reg15, hcall, hcallP, hlv_200011, hlv_250011, hlv_300011, hl]
  case pos =>
    obtain ⟨rfl, rfl, rfl, h7⟩ := h
    obtain ⟨k0, k1, rfl⟩ := two_of h7
    rw [decide_eq_true (by simp)] at hl
    obtain ⟨_, w1, w2, w3, w4⟩ := hk k0 (by simp)
    obtain ⟨pl, _⟩ := hk k1 (by simp)
    have hw := hw k0 w1 w2 w3 w4
    obtain ⟨nl, ys, hb1, hb2, hb3⟩ := hb k1 pl
    have hby := fun t => bits_bytes (t := t) pl
    clear hb hk w1 w2 w3 w4
    simp only [sigParts, true_and, if_true]
    simp only [Tlv.cellsL] at hl ⊢
    have he := he
    cases hbt : k1.bits with
    | none =>
      rw [hbt] at hb1
      simp only [Option.isSome] at hb1
      simp only [partsV, zeroT, noSig, sigD, Tlv.cells, Tlv.cellsL, List.map, List.cons_append, List.nil_append]
      clear hw hd hbt hb3 hby
      obtain ⟨y1, y2, y3, y4, y5, y6, y7⟩ := k0
      obtain ⟨z1, z2, z3, z4, z5, z6, z7⟩ := k1
      simp only [Tlv.cells] at *
      rw [callN_run (fn := Tryz.f15) rfl rfl rfl (by simp [Tryz.ntmps15])]
      generalize hC : (envG G).ctx 15 (callN (envG G) F (n+79)) (callP (envG G) F (n+79)) = C
      have htt : C.tt = (envG G).tt := by rw [← hC]; rfl
      have hlin : C.lin = [] := by rw [← hC]; rfl
      have hreg : C.reg = reg15 := by rw [← hC]; rfl
      have hcall : C.call = callN (envG G) F (n+79) := by rw [← hC]; rfl
      have hcallP : C.callP = callP (envG G) F (n+79) := by rw [← hC]; rfl
      have hlv_200011 : C.live 200011 = [5, 8] := by rw [← hC]; rfl
      have hlv_250011 : C.live 250011 = [] := by rw [← hC]; rfl
      have hlv_300011 : C.live 300011 = [4] := by rw [← hC]; rfl
      clear hC
      simp [htt, hlin, hreg, reg15, hcall, hcallP, hlv_200011, hlv_250011, hlv_300011, hl, he, hb1]
    | some t =>
      rw [hbt] at hb1
      have := hb3 t hbt
      subst this
      have hd := hd nl ys hb2 (hby ys hbt)
      rcases sigV_cases ys with ⟨r0, r1, r2, r3, r4, r5, s0, s1, s2, s3, s4, s5, e1, e2⟩ | ⟨e1, t, d, e2⟩
      · rw [e2] at hd
        simp only [e1, partsV, sigD, List.map, List.cons_append, List.nil_append] at hd ⊢
        simp only [Option.isSome] at hb1
        clear hb3 hby hbt e2
        generalize k0.enc = en at *
        obtain ⟨y1, y2, y3, y4, y5, y6, y7⟩ := k0
        obtain ⟨z1, z2, z3, z4, z5, z6, z7⟩ := k1
        simp only [Tlv.cells] at *
        rw [callN_run (fn := Tryz.f15) rfl rfl rfl (by simp [Tryz.ntmps15])]
        generalize hC : (envG G).ctx 15 (callN (envG G) F (n+79)) (callP (envG G) F (n+79)) = C
        have htt : C.tt = (envG G).tt := by rw [← hC]; rfl
        have hlin : C.lin = [] := by rw [← hC]; rfl
        have hreg : C.reg = reg15 := by rw [← hC]; rfl
        have hcall : C.call = callN (envG G) F (n+79) := by rw [← hC]; rfl
        have hcallP : C.callP = callP (envG G) F (n+79) := by rw [← hC]; rfl
        have hlv_200011 : C.live 200011 = [5, 8] := by rw [← hC]; rfl
        have hlv_250011 : C.live 250011 = [] := by rw [← hC]; rfl
        have hlv_300011 : C.live 300011 = [4] := by rw [← hC]; rfl
        clear hC
        simp [htt, hlin, hreg, reg15, hcall, hcallP, hlv_200011, hlv_250011, hlv_300011, hl, he, hb1, hd, hw]
      · rw [e2] at hd
        simp only [e1, partsV, zeroT, noSig, sigD, Tlv.cells, Tlv.cellsL, List.map, List.cons_append, List.nil_append] at hd ⊢
        simp only [Option.isSome] at hb1
        clear hw hb3 hby hbt e2
        obtain ⟨y1, y2, y3, y4, y5, y6, y7⟩ := k0
        obtain ⟨z1, z2, z3, z4, z5, z6, z7⟩ := k1
        simp only [Tlv.cells] at *
        rw [callN_run (fn := Tryz.f15) rfl rfl rfl (by simp [Tryz.ntmps15])]
        generalize hC : (envG G).ctx 15 (callN (envG G) F (n+79)) (callP (envG G) F (n+79)) = C
        have htt : C.tt = (envG G).tt := by rw [← hC]; rfl
        have hlin : C.lin = [] := by rw [← hC]; rfl
        have hreg : C.reg = reg15 := by rw [← hC]; rfl
        have hcall : C.call = callN (envG G) F (n+79) := by rw [← hC]; rfl
        have hcallP : C.callP = callP (envG G) F (n+79) := by rw [← hC]; rfl
        have hlv_200011 : C.live 200011 = [5, 8] := by rw [← hC]; rfl
        have hlv_250011 : C.live 250011 = [] := by rw [← hC]; rfl
        have hlv_300011 : C.live 300011 = [4] := by rw [← hC]; rfl
        clear hC
        simp [htt, hlin, hreg, reg15, hcall, hcallP, hlv_200011, hlv_250011, hlv_300011, hl, he, hb1, hd]
end Go.Proofs.YtjmcgdhekjkjfaaGreatDoor
