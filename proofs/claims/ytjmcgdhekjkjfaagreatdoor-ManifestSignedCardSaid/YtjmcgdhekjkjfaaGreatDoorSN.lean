/- The reference's signature: ref14.Decode. -/
import Derived.Test.YtjmcgdhekjkjfaaGreatDoorSM
import Derived.Test.YtjmcgdhekjkjfaaGreatDoorSC
import Derived.Test.YtjmcgdhekjkjfaaGreatDoorSG
import Derived.Test.YtjmcgdhekjkjfaaGreatDoorVMS
set_option linter.unusedSimpArgs false
set_option linter.unusedVariables false
namespace Go.Proofs.YtjmcgdhekjkjfaaGreatDoor
open Go Go.VM
variable {G : GE}
set_option maxRecDepth 100000
set_option maxHeartbeats 4000000
theorem parseB_bad2 {b : List Int} {c p : Int} (h : parseB b = .bad c p) : (p = -1 ∧ c = 2) ∨ 0 ≤ p ∧ 1 ≤ c ∧ c ≤ 9 := by
  unfold parseB at h
  split at h
  · injection h with h1 h2; exact .inl ⟨h2.symm, h1.symm⟩
  · split at h
    · rename_i h1; injection h with h2 h3; subst h2; subst h3; exact .inr (elemB_place h1)
    · split at h
      · injection h with h2 h3; omega
      · cases h
theorem sigB_two' {b : List Int} (hb : ∀ c ∈ b, 0 ≤ c ∧ c < 256) {x1 x2 : Int} {x3 x4 x6 : Bool} {x5 : List Int} {k0 k1 : Tlv} (hp : parseB b = .ok (.mk x1 x2 x3 x4 x5 x6 [k0, k1]))
    (l0 : (numV k0.body).length ≤ 48) (l1 : (numV k1.body).length ≤ 48) (c0 : ∀ c ∈ k0.body, 0 ≤ c ∧ c < 256) (c1 : ∀ c ∈ k1.body, 0 ≤ c ∧ c < 256) (r s : List Int) (e0 : limbs (numV k0.body) = r) (e1 : limbs (numV k1.body) = s) :
    sigB b = if isScalar r = true ∧ isScalar s = true ∧ (sigT r s).enc = b then some (r, s) else none := by
  subst e0
  subst e1
  exact sigB_two hb hp l0 l1 c0 c1
theorem limbs_pack {u : List Int} (hb : ∀ c ∈ u, 0 ≤ c ∧ c < 256) (hl : u.length ≤ 48) : ∃ a0 a1 a2 a3 a4 a5, limbs u = [a0, a1, a2, a3, a4, a5] ∧ In64 [a0, a1, a2, a3, a4, a5] ∧ (digs u).length ≤ 12 ∧ (List.range 6).map (to6 (fun j => (digs u).getD j 0) (digs u).length) = [a0, a1, a2, a3, a4, a5] := by
  obtain ⟨a0, a1, a2, a3, a4, a5, he⟩ := limbs_six u
  have h := digs_limbs hb hl
  have h2 := (limbs_ok hb hl).2
  rw [he] at h h2
  exact ⟨a0, a1, a2, a3, a4, a5, he, h2, h⟩
theorem t_rTo6 (F n : Nat) (hF : 60 ≤ F) (r : List Int) (h : r.length ≤ 12) : callN (envG G) F (n+3) 45 [.d (.nums .u64 false r)] = some ⟨[.d (limbD ((List.range 6).map (to6 (fun j => r.getD j 0) r.length)))], []⟩ := by
  have k := callN_mono hF (show 3 ≤ n + 3 by omega) (run_To6 (G := G) (fun j => r.getD j 0) r.length h)
  rw [range_getD r] at k
  exact k
theorem t_r14Decode (F : Nat) (hF : 1048580 < F) (hF2 : F ≤ 140737488355328) (n : Nat) (b : List Int) (nl : Bool) (hnl : nl = true → b = []) (hb : ∀ c ∈ b, 0 ≤ c ∧ c < 256) :
    ∃ r0 r1 r2 r3 r4 r5 s0 s1 s2 s3 s4 s5, callN (envG G) F (n + 40) 23 [.d (.nums .u8 nl b)] = some ⟨[.d (sigD [r0, r1, r2, r3, r4, r5] [s0, s1, s2, s3, s4, s5]), .d (.bool (sigB b).isSome)], []⟩ ∧ ∀ p, sigB b = some p → p = ([r0, r1, r2, r3, r4, r5], [s0, s1, s2, s3, s4, s5]) := by
  have hp : callN (envG G) F (n + 39) _ _ = _ := t_rParse (G := G) F hF (n + 19) b nl hnl hb
  have hq : ∀ (nl : Bool) (b : List Int) (h : nl = true → b = []) (h2 : b.length ≤ 140737488355327), callN (envG G) F (n + 39) _ _ = _ := fun nl b h h2 => t_rNumber (G := G) F (n + 38) nl b h h2
  have hf : ∀ (nl : Bool) (b : List Int) (h : ∀ c ∈ b, 0 ≤ c ∧ c < 256) (h2 : b.length ≤ 1048576), callN (envG G) F (n + 39) _ _ = _ := fun nl b h h2 => t_From (G := G) F (n + 37) nl b h h2 hF
  have h6 : ∀ (r : List Int) (h : r.length ≤ 12), callN (envG G) F (n + 39) _ _ = _ := fun r h => t_rTo6 (G := G) F (n + 36) (by omega) r h
  have hk : ∀ x, parseB b = .ok x → ∀ y ∈ x.kids, y.plainOk := fun x hx y hy => by
    have h := parseB_ok hb hx
    have h2 := parseB_nil hx
    obtain ⟨x1, x2, x3, x4, x5, x6, x7⟩ := x
    simp only [Tlv.kids] at hy
    have h3 := h.2.2.2.2.2
    simp only [Tlv.weight] at h3
    have h4 := weight_mem hy
    exact plainOk_of (W := 1048576) (nilOk_mem h2.2.2 hy) (bytesOk_mem h.2.2.2.2.1.2 hy) (by omega) (by omega)
  generalize hpb : parseB b = r at *
  cases r with
  | bad c p =>
    have hs : sigB b = none := by unfold sigB; rw [hpb]
    have hc : c ≠ 0 := by have := parseB_bad2 hpb; omega
    rw [hs]
    refine ⟨0, 0, 0, 0, 0, 0, 0, 0, 0, 0, 0, 0, ?_, by simp⟩
    simp only [rparseV, zeroT, Tlv.cells, Tlv.cellsL] at hp
    simp only [sigD, List.map, List.cons_append, List.nil_append, Option.isSome]
    clear hq hf h6 hk
    rw [callN_run (fn := Tryz.f23) rfl rfl rfl (by simp [Tryz.ntmps23])]
    generalize hC : (envG G).ctx 23 (callN (envG G) F (n+39)) (callP (envG G) F (n+39)) = C
    have htt : C.tt = (envG G).tt := by rw [← hC]; rfl
    have hlin : C.lin = [] := by rw [← hC]; rfl
    have hreg : C.reg = reg23 := by rw [← hC]; rfl
    have hcall : C.call = callN (envG G) F (n+39) := by rw [← hC]; rfl
    have hcallP : C.callP = callP (envG G) F (n+39) := by rw [← hC]; rfl
    have hlv_200010 : C.live 200010 = [4, 6] := by rw [← hC]; rfl
    have hlv_250010 : C.live 250010 = [] := by rw [← hC]; rfl
    have hlv_300010 : C.live 300010 = [] := by rw [← hC]; rfl
    clear hC
    simp [htt, hlin, hreg, reg23, hcall, hcallP, hlv_200010, hlv_250010, hlv_300010, hp, hc]
  | ok x =>
    have hlb : b.length ≤ 1048576 := (parseB_ok hb hpb).1
    have hk := hk _ rfl
    obtain ⟨x1, x2, x3, x4, x5, x6, x7⟩ := x
    simp only [Tlv.kids] at hk
    simp only [rparseV, Tlv.cells] at hp
    have hc7 := cellsL_len x7
    by_cases h4 : x7.length = 2
    case neg =>
      rw [sigB_not hpb h4]
      refine ⟨0, 0, 0, 0, 0, 0, 0, 0, 0, 0, 0, 0, ?_, by simp⟩
      simp only [sigD, List.map, List.cons_append, List.nil_append, Option.isSome]
      have h4' : ¬ (x7.length : Int) = 2 := by omega
      clear hq hf h6 hk
      rw [callN_run (fn := Tryz.f23) rfl rfl rfl (by simp [Tryz.ntmps23])]
      generalize hC : (envG G).ctx 23 (callN (envG G) F (n+39)) (callP (envG G) F (n+39)) = C
      have htt : C.tt = (envG G).tt := by rw [← hC]; rfl
      have hlin : C.lin = [] := by rw [← hC]; rfl
      have hreg : C.reg = reg23 := by rw [← hC]; rfl
      have hcall : C.call = callN (envG G) F (n+39) := by rw [← hC]; rfl
      have hcallP : C.callP = callP (envG G) F (n+39) := by rw [← hC]; rfl
      have hlv_200010 : C.live 200010 = [4, 6] := by rw [← hC]; rfl
      have hlv_250010 : C.live 250010 = [] := by rw [← hC]; rfl
      have hlv_300010 : C.live 300010 = [] := by rw [← hC]; rfl
      clear hC
      simp [htt, hlin, hreg, reg23, hcall, hcallP, hlv_200010, hlv_250010, hlv_300010, hp, hc7, h4, h4']
    case pos =>
      obtain ⟨k0, k1, rfl⟩ := two_of h4
      have p0 := hk k0 (by simp)
      have p1 := hk k1 (by simp)
      clear hk
      have hN := sigB_num (k0 := k0) (k1 := k1) hpb
      have hT := sigB_two' (k0 := k0) (k1 := k1) hb hpb
      obtain ⟨y1, y2, y3, y4, y5, y6, y7⟩ := k0
      obtain ⟨z1, z2, z3, z4, z5, z6, z7⟩ := k1
      simp only [Tlv.plainOk] at p0 p1
      simp only [Tlv.body] at hN hT
      simp only [Tlv.cellsL, Tlv.cells] at hp
      have g0 := hq y4 y5 p0.1 (by have := p0.2.1; omega)
      have g1 := hq z4 z5 p1.1 (by have := p1.2.1; omega)
      clear hq
      have b0 := numV_bytes p0.2.2
      have b1 := numV_bytes p1.2.2
      have l0 := numV_len y5
      have l1 := numV_len z5
      have hT := fun h1 h2 => hT h1 h2 p0.2.2 p1.2.2
      have u0 : (∃ e, e ≠ 0 ∧ numB y5 = .inl e ∧ numOk y5 = false) ∨ (numB y5 = .inr (numV y5) ∧ numOk y5 = true) := by
        cases h : numB y5 with
        | inl e => exact .inl ⟨e, by have := numB_err h; omega, rfl, by unfold numOk; rw [h]⟩
        | inr ys => exact .inr ⟨by unfold numV; rw [h], by unfold numOk; rw [h]⟩
      have u1 : (∃ e, e ≠ 0 ∧ numB z5 = .inl e ∧ numOk z5 = false) ∨ (numB z5 = .inr (numV z5) ∧ numOk z5 = true) := by
        cases h : numB z5 with
        | inl e => exact .inl ⟨e, by have := numB_err h; omega, rfl, by unfold numOk; rw [h]⟩
        | inr ys => exact .inr ⟨by unfold numV; rw [h], by unfold numOk; rw [h]⟩
      rcases u0 with ⟨e, he, hu0, hn0⟩ | ⟨hu0, hn0⟩
      · rw [hN (by rw [hn0]; rfl)]
        refine ⟨0, 0, 0, 0, 0, 0, 0, 0, 0, 0, 0, 0, ?_, by simp⟩
        simp only [sigD, List.map, List.cons_append, List.nil_append, Option.isSome]
        rw [hu0] at g0
        clear hN hT hf h6
        rw [callN_run (fn := Tryz.f23) rfl rfl rfl (by simp [Tryz.ntmps23])]
        generalize hC : (envG G).ctx 23 (callN (envG G) F (n+39)) (callP (envG G) F (n+39)) = C
        have htt : C.tt = (envG G).tt := by rw [← hC]; rfl
        have hlin : C.lin = [] := by rw [← hC]; rfl
        have hreg : C.reg = reg23 := by rw [← hC]; rfl
        have hcall : C.call = callN (envG G) F (n+39) := by rw [← hC]; rfl
        have hcallP : C.callP = callP (envG G) F (n+39) := by rw [← hC]; rfl
        have hlv_200010 : C.live 200010 = [4, 6] := by rw [← hC]; rfl
        have hlv_250010 : C.live 250010 = [] := by rw [← hC]; rfl
        have hlv_300010 : C.live 300010 = [] := by rw [← hC]; rfl
        clear hC
        rcases u1 with ⟨e1, he1, hu1, hn1⟩ | ⟨hu1, hn1⟩
        · rw [hu1] at g1
          simp [htt, hlin, hreg, reg23, hcall, hcallP, hlv_200010, hlv_250010, hlv_300010, hp, g0, g1, he]
        · rw [hu1] at g1
          by_cases hz : z5.head? = some 0
          · rw [if_pos hz] at g1
            simp [htt, hlin, hreg, reg23, hcall, hcallP, hlv_200010, hlv_250010, hlv_300010, hp, g0, g1, he]
          · rw [if_neg hz] at g1
            simp [htt, hlin, hreg, reg23, hcall, hcallP, hlv_200010, hlv_250010, hlv_300010, hp, g0, g1, he]
      · have g0 : ∃ o, (o = [] ∨ o = [0]) ∧ callN (envG G) F (n + 39) 44 [.d (.nums .u8 y4 y5)] = some ⟨[.d (.nums .u8 false (numV y5)), .d (.int .i64 0)], o⟩ := ⟨if y5.head? = some 0 then [] else [0], by split <;> simp, by rw [g0, hu0]⟩
        obtain ⟨o0, ho0, g0⟩ := g0
        rcases u1 with ⟨e, he, hu1, hn1⟩ | ⟨hu1, hn1⟩
        · rw [hN (by rw [hn1]; simp)]
          refine ⟨0, 0, 0, 0, 0, 0, 0, 0, 0, 0, 0, 0, ?_, by simp⟩
          simp only [sigD, List.map, List.cons_append, List.nil_append, Option.isSome]
          rw [hu1] at g1
          clear hN hT hf h6
          rw [callN_run (fn := Tryz.f23) rfl rfl rfl (by simp [Tryz.ntmps23])]
          generalize hC : (envG G).ctx 23 (callN (envG G) F (n+39)) (callP (envG G) F (n+39)) = C
          have htt : C.tt = (envG G).tt := by rw [← hC]; rfl
          have hlin : C.lin = [] := by rw [← hC]; rfl
          have hreg : C.reg = reg23 := by rw [← hC]; rfl
          have hcall : C.call = callN (envG G) F (n+39) := by rw [← hC]; rfl
          have hcallP : C.callP = callP (envG G) F (n+39) := by rw [← hC]; rfl
          have hlv_200010 : C.live 200010 = [4, 6] := by rw [← hC]; rfl
          have hlv_250010 : C.live 250010 = [] := by rw [← hC]; rfl
          have hlv_300010 : C.live 300010 = [] := by rw [← hC]; rfl
          clear hC
          rcases ho0 with rfl | rfl <;> simp [htt, hlin, hreg, reg23, hcall, hcallP, hlv_200010, hlv_250010, hlv_300010, hp, g0, g1, he]
        · have g1 : ∃ o, (o = [] ∨ o = [0]) ∧ callN (envG G) F (n + 39) 44 [.d (.nums .u8 z4 z5)] = some ⟨[.d (.nums .u8 false (numV z5)), .d (.int .i64 0)], o⟩ := ⟨if z5.head? = some 0 then [] else [0], by split <;> simp, by rw [g1, hu1]⟩
          obtain ⟨o1, ho1, g1⟩ := g1
          by_cases e0 : (numV y5).length ≤ 48
          case neg =>
            have e0' : (48 : Int) < (numV y5).length := by omega
            rw [hN (by simp only [Bool.and_eq_false_iff, decide_eq_false_iff_not]; exact .inl (.inr (decide_eq_false e0)))]
            refine ⟨0, 0, 0, 0, 0, 0, 0, 0, 0, 0, 0, 0, ?_, by simp⟩
            simp only [sigD, List.map, List.cons_append, List.nil_append, Option.isSome]
            clear hN hT hf h6
            rw [callN_run (fn := Tryz.f23) rfl rfl rfl (by simp [Tryz.ntmps23])]
            generalize hC : (envG G).ctx 23 (callN (envG G) F (n+39)) (callP (envG G) F (n+39)) = C
            have htt : C.tt = (envG G).tt := by rw [← hC]; rfl
            have hlin : C.lin = [] := by rw [← hC]; rfl
            have hreg : C.reg = reg23 := by rw [← hC]; rfl
            have hcall : C.call = callN (envG G) F (n+39) := by rw [← hC]; rfl
            have hcallP : C.callP = callP (envG G) F (n+39) := by rw [← hC]; rfl
            have hlv_200010 : C.live 200010 = [4, 6] := by rw [← hC]; rfl
            have hlv_250010 : C.live 250010 = [] := by rw [← hC]; rfl
            have hlv_300010 : C.live 300010 = [] := by rw [← hC]; rfl
            clear hC
            rcases ho0 with rfl | rfl <;> rcases ho1 with rfl | rfl <;> simp [htt, hlin, hreg, reg23, hcall, hcallP, hlv_200010, hlv_250010, hlv_300010, hp, g0, g1, e0']
          case pos =>
            have e0' : ¬ (48 : Int) < (numV y5).length := by omega
            by_cases e1 : (numV z5).length ≤ 48
            case neg =>
              have e1' : (48 : Int) < (numV z5).length := by omega
              rw [hN (by simp only [Bool.and_eq_false_iff, decide_eq_false_iff_not]; exact .inr (.inr (decide_eq_false e1)))]
              refine ⟨0, 0, 0, 0, 0, 0, 0, 0, 0, 0, 0, 0, ?_, by simp⟩
              simp only [sigD, List.map, List.cons_append, List.nil_append, Option.isSome]
              clear hN hT hf h6
              rw [callN_run (fn := Tryz.f23) rfl rfl rfl (by simp [Tryz.ntmps23])]
              generalize hC : (envG G).ctx 23 (callN (envG G) F (n+39)) (callP (envG G) F (n+39)) = C
              have htt : C.tt = (envG G).tt := by rw [← hC]; rfl
              have hlin : C.lin = [] := by rw [← hC]; rfl
              have hreg : C.reg = reg23 := by rw [← hC]; rfl
              have hcall : C.call = callN (envG G) F (n+39) := by rw [← hC]; rfl
              have hcallP : C.callP = callP (envG G) F (n+39) := by rw [← hC]; rfl
              have hlv_200010 : C.live 200010 = [4, 6] := by rw [← hC]; rfl
              have hlv_250010 : C.live 250010 = [] := by rw [← hC]; rfl
              have hlv_300010 : C.live 300010 = [] := by rw [← hC]; rfl
              clear hC
              rcases ho0 with rfl | rfl <;> rcases ho1 with rfl | rfl <;> simp [htt, hlin, hreg, reg23, hcall, hcallP, hlv_200010, hlv_250010, hlv_300010, hp, g0, g1, e0', e1']
            case pos =>
              have e1' : ¬ (48 : Int) < (numV z5).length := by omega
              have f0 := hf false (numV y5) b0 (by omega)
              have f1 := hf false (numV z5) b1 (by omega)
              change callN _ _ _ _ _ = some ⟨[.d (.nums .u64 false (digs (numV y5)))], []⟩ at f0
              change callN _ _ _ _ _ = some ⟨[.d (.nums .u64 false (digs (numV z5)))], []⟩ at f1
              obtain ⟨a0, a1, a2, a3, a4, a5, he0, i0, d0, m0⟩ := limbs_pack b0 e0
              obtain ⟨c0, c1, c2, c3, c4, c5, he1, i1, d1, m1⟩ := limbs_pack b1 e1
              have t0 := h6 (digs (numV y5)) d0
              have t1 := h6 (digs (numV z5)) d1
              rw [m0] at t0
              rw [m1] at t1
              have hT := hT e0 e1 _ _ he0 he1
              have hE : callN (envG G) F (n + 39) _ _ = _ := t_r14Encode (G := G) F hF hF2 (n + 9) a0 a1 a2 a3 a4 a5 c0 c1 c2 c3 c4 c5 i0 i1
              obtain ⟨q1, q2, q3, q4⟩ := sigT_ok i0 i1
              have hle := enc_le (sigT [a0, a1, a2, a3, a4, a5] [c0, c1, c2, c3, c4, c5])
              have hel : (sigT [a0, a1, a2, a3, a4, a5] [c0, c1, c2, c3, c4, c5]).enc.length ≤ 140737488355328 := by omega
              have hbl : b.length ≤ 140737488355328 := by omega
              clear q1 q2 q3 q4 hle hN hf h6 m0 m1 d0 d1 i0 i1 he0 he1
              refine ⟨a0, a1, a2, a3, a4, a5, c0, c1, c2, c3, c4, c5, ?_, fun p hp2 => ?_⟩
              · rw [hT]
                generalize (sigT [a0, a1, a2, a3, a4, a5] [c0, c1, c2, c3, c4, c5]).enc = en at *
                generalize isScalar [a0, a1, a2, a3, a4, a5] = sa at *
                generalize isScalar [c0, c1, c2, c3, c4, c5] = sb at *
                simp only [sigD, limbD, List.map, List.cons_append, List.nil_append] at *
                cases sa
                · simp only [Bool.false_eq_true, false_and, if_false] at hE ⊢
                  rw [callN_run (fn := Tryz.f23) rfl rfl rfl (by simp [Tryz.ntmps23])]
                  generalize hC : (envG G).ctx 23 (callN (envG G) F (n+39)) (callP (envG G) F (n+39)) = C
                  have htt : C.tt = (envG G).tt := by rw [← hC]; rfl
                  have hlin : C.lin = [] := by rw [← hC]; rfl
                  have hreg : C.reg = reg23 := by rw [← hC]; rfl
                  have hcall : C.call = callN (envG G) F (n+39) := by rw [← hC]; rfl
                  have hcallP : C.callP = callP (envG G) F (n+39) := by rw [← hC]; rfl
                  have hlv_200010 : C.live 200010 = [4, 6] := by rw [← hC]; rfl
                  have hlv_250010 : C.live 250010 = [] := by rw [← hC]; rfl
                  have hlv_300010 : C.live 300010 = [] := by rw [← hC]; rfl
                  clear hC
                  rcases ho0 with rfl | rfl <;> rcases ho1 with rfl | rfl <;> simp [htt, hlin, hreg, reg23, hcall, hcallP, hlv_200010, hlv_250010, hlv_300010, hp, g0, g1, e0', e1', f0, f1, t0, t1, hE]
                · cases sb
                  · simp only [Bool.false_eq_true, false_and, and_false, if_false] at hE ⊢
                    rw [callN_run (fn := Tryz.f23) rfl rfl rfl (by simp [Tryz.ntmps23])]
                    generalize hC : (envG G).ctx 23 (callN (envG G) F (n+39)) (callP (envG G) F (n+39)) = C
                    have htt : C.tt = (envG G).tt := by rw [← hC]; rfl
                    have hlin : C.lin = [] := by rw [← hC]; rfl
                    have hreg : C.reg = reg23 := by rw [← hC]; rfl
                    have hcall : C.call = callN (envG G) F (n+39) := by rw [← hC]; rfl
                    have hcallP : C.callP = callP (envG G) F (n+39) := by rw [← hC]; rfl
                    have hlv_200010 : C.live 200010 = [4, 6] := by rw [← hC]; rfl
                    have hlv_250010 : C.live 250010 = [] := by rw [← hC]; rfl
                    have hlv_300010 : C.live 300010 = [] := by rw [← hC]; rfl
                    clear hC
                    rcases ho0 with rfl | rfl <;> rcases ho1 with rfl | rfl <;> simp [htt, hlin, hreg, reg23, hcall, hcallP, hlv_200010, hlv_250010, hlv_300010, hp, g0, g1, e0', e1', f0, f1, t0, t1, hE]
                  · simp only [true_and, and_self, if_true] at hE ⊢
                    by_cases hq : en = b
                    · subst hq
                      rw [if_pos rfl]
                      rw [callN_run (fn := Tryz.f23) rfl rfl rfl (by simp [Tryz.ntmps23])]
                      generalize hC : (envG G).ctx 23 (callN (envG G) F (n+39)) (callP (envG G) F (n+39)) = C
                      have htt : C.tt = (envG G).tt := by rw [← hC]; rfl
                      have hlin : C.lin = [] := by rw [← hC]; rfl
                      have hreg : C.reg = reg23 := by rw [← hC]; rfl
                      have hcall : C.call = callN (envG G) F (n+39) := by rw [← hC]; rfl
                      have hcallP : C.callP = callP (envG G) F (n+39) := by rw [← hC]; rfl
                      have hlv_200010 : C.live 200010 = [4, 6] := by rw [← hC]; rfl
                      have hlv_250010 : C.live 250010 = [] := by rw [← hC]; rfl
                      have hlv_300010 : C.live 300010 = [] := by rw [← hC]; rfl
                      clear hC
                      rcases ho0 with rfl | rfl <;> rcases ho1 with rfl | rfl <;> simp [htt, hlin, hreg, reg23, hcall, hcallP, hlv_200010, hlv_250010, hlv_300010, hp, g0, g1, e0', e1', f0, f1, t0, t1, hE, hel]
                    · rw [if_neg hq]
                      rw [callN_run (fn := Tryz.f23) rfl rfl rfl (by simp [Tryz.ntmps23])]
                      generalize hC : (envG G).ctx 23 (callN (envG G) F (n+39)) (callP (envG G) F (n+39)) = C
                      have htt : C.tt = (envG G).tt := by rw [← hC]; rfl
                      have hlin : C.lin = [] := by rw [← hC]; rfl
                      have hreg : C.reg = reg23 := by rw [← hC]; rfl
                      have hcall : C.call = callN (envG G) F (n+39) := by rw [← hC]; rfl
                      have hcallP : C.callP = callP (envG G) F (n+39) := by rw [← hC]; rfl
                      have hlv_200010 : C.live 200010 = [4, 6] := by rw [← hC]; rfl
                      have hlv_250010 : C.live 250010 = [] := by rw [← hC]; rfl
                      have hlv_300010 : C.live 300010 = [] := by rw [← hC]; rfl
                      clear hC
                      rcases ho0 with rfl | rfl <;> rcases ho1 with rfl | rfl <;> simp [htt, hlin, hreg, reg23, hcall, hcallP, hlv_200010, hlv_250010, hlv_300010, hp, g0, g1, e0', e1', f0, f1, t0, t1, hE, hel, hbl, hq]
              · rw [hT] at hp2
                split at hp2
                · injection hp2 with hp2; exact hp2.symm
                · cases hp2
end Go.Proofs.YtjmcgdhekjkjfaaGreatDoor
set_option linter.unusedSimpArgs false
set_option linter.unusedVariables false
namespace Go.Proofs.YtjmcgdhekjkjfaaGreatDoor
open Go Go.VM
variable {G : GE}
set_option maxRecDepth 100000
set_option maxHeartbeats 8000000
theorem t_r16IsL (F n : Nat) (x1 x2 : Int) (x3 x4 : Bool) (x5 : List Int) (x6 : Bool) (x7 : List Tlv) :
    callN (envG G) F (n+1) 19 [.d (.agg [.int .i64 x1, .int .i64 x2, .bool x3, .nums .u8 x4 x5, .sl 5 x6 (Tlv.cellsL x7)])] = some ⟨[.d (.bool (decide (x1 = 0 ∧ x2 = 16 ∧ x3 = true)))], []⟩ := by
  rw [callN_run (fn := Tryz.f19) rfl rfl rfl (by simp [Tryz.ntmps19])]
  generalize hC : (envG G).ctx 19 (callN (envG G) F (n)) (callP (envG G) F (n)) = C
  have htt : C.tt = (envG G).tt := by rw [← hC]; rfl
  have hlin : C.lin = [] := by rw [← hC]; rfl
  have hreg : C.reg = reg19 := by rw [← hC]; rfl
  have hcall : C.call = callN (envG G) F (n) := by rw [← hC]; rfl
  have hcallP : C.callP = callP (envG G) F (n) := by rw [← hC]; rfl
  by_cases h1 : x1 = 0
  · by_cases h2 : x2 = 16
    · cases x3 <;> simp [htt, hlin, hreg, reg19, hcall, hcallP, h1, h2]
    · simp [htt, hlin, hreg, reg19, hcall, hcallP, h1, h2]
  · simp [htt, hlin, hreg, reg19, hcall, hcallP, h1]
theorem kids_ok {b : List Int} (hb : ∀ c ∈ b, 0 ≤ c ∧ c < 256) {x : Tlv} (hx : parseB b = .ok x) :
    ∀ y ∈ x.kids, y.plainOk ∧ y.fine = true ∧ y.depth ≤ 16 ∧ y.weight ≤ 1048576 ∧ y.enc.length ≤ 1048576 := by
  intro y hy
  obtain ⟨h1, h2, h3, h4, h5, h6⟩ := parseB_ok hb hx
  have h7 := parseB_nil hx
  obtain ⟨x1, x2, x3, x4, x5, x6, x7⟩ := x
  simp only [Tlv.kids] at hy
  simp only [Tlv.weight] at h6
  simp only [Tlv.fine, Bool.and_eq_true] at h3
  simp only [Tlv.depth] at h4
  have q1 := weight_mem hy
  have q2 := depthL_mem hy
  have q3 := encL_mem hy
  have q4 := congrArg List.length h2
  simp only [Tlv.enc, List.length_append] at q4
  exact ⟨plainOk_of (W := 1048576) (nilOk_mem h7.2.2 hy) (bytesOk_mem h5.2 hy) (by omega) (by omega), fineL_mem h3.2 hy, by omega, by omega, by omega⟩
def signedV : Res Tlv → List V
  | .bad c p => [.d (.nums .u8 true []), .d noSig, .d (atD c p)]
  | .ok x => match sigParts x with
    | some (k0, r, s) => [.d (.nums .u8 false k0.enc), .d (sigD r s), .d .nilifc]
    | none => [.d (.nums .u8 true []), .d noSig, .d (err 7)]
theorem sigParts_six {x k0 : Tlv} {r s : List Int} (h : sigParts x = some (k0, r, s)) : r.length = 6 ∧ s.length = 6 := by
  unfold sigParts at h
  split at h
  · split at h
    · split at h
      · rename_i b _
        split at h
        · rename_i r' s' hb
          injection h with h
          injection h with h1 h2
          injection h2 with h2 h3
          subst h2; subst h3
          rcases sigV_cases b with ⟨r0, r1, r2, r3, r4, r5, s0, s1, s2, s3, s4, s5, e1, e2⟩ | ⟨e1, _⟩
          · rw [hb] at e1
            injection e1 with e1
            injection e1 with e1 e3
            subst e1; subst e3
            exact ⟨rfl, rfl⟩
          · rw [hb] at e1; cases e1
        · cases h
      · cases h
    · cases h
  · cases h
theorem t_Signed (hK : SubK G) (hg : GroupG G) (F : Nat) (hF : 1048580 < F) (hF2 : F ≤ 140737488355328) (n : Nat) (b : List Int) (nl : Bool) (hnl : nl = true → b = []) (hb : ∀ c ∈ b, 0 ≤ c ∧ c < 256) :
    callN (envG G) F (n + 81) 6 [.d (.nums .u8 nl b)] = some ⟨signedV (parseB b), []⟩ := by
  have hp : callN (envG G) F (n + 80) _ _ = _ := t_Parse (G := G) F hF (n + 60) b nl hnl hb
  have hq : ∀ x, parseB b = .ok x → callN (envG G) F (n + 80) _ _ = _ := fun x hx => t_Parts0 (G := G) hK hg F hF hF2 n x (kids_ok hb hx)
  clear hK hg
  generalize parseB b = r at *
  cases r with
  | bad c p =>
    clear hq
    simp only [parseV, zeroT, Tlv.cells, Tlv.cellsL] at hp
    simp only [signedV, noSig, sigD, List.map, List.cons_append, List.nil_append]
    have hne : ∃ t x, atD c p = .ifc t x := by
      unfold atD; split
      · exact ⟨_, _, rfl⟩
      · exact ⟨_, _, rfl⟩
    obtain ⟨t, x, hne⟩ := hne
    rw [hne] at hp ⊢
    rw [callN_run (fn := Tryz.f6) rfl rfl rfl (by simp [Tryz.ntmps6])]
    generalize hC : (envG G).ctx 6 (callN (envG G) F (n+80)) (callP (envG G) F (n+80)) = C
    have htt : C.tt = (envG G).tt := by rw [← hC]; rfl
    have hlin : C.lin = [] := by rw [← hC]; rfl
    have hreg : C.reg = reg6 := by rw [← hC]; rfl
    have hcall : C.call = callN (envG G) F (n+80) := by rw [← hC]; rfl
    have hcallP : C.callP = callP (envG G) F (n+80) := by rw [← hC]; rfl
    have hlv_200007 : C.live 200007 = [] := by rw [← hC]; rfl
    have hlv_250007 : C.live 250007 = [] := by rw [← hC]; rfl
    clear hC
    simp [htt, hlin, hreg, reg6, hcall, hcallP, hlv_200007, hlv_250007, hp]
  | ok x =>
    have hq := hq x rfl
    simp only [signedV]
    cases hs : sigParts x with
    | none =>
      rw [hs] at hq
      simp only [partsV, zeroT, noSig, sigD, Tlv.cells, Tlv.cellsL, List.map, List.cons_append, List.nil_append] at hq ⊢
      obtain ⟨x1, x2, x3, x4, x5, x6, x7⟩ := x
      simp only [parseV, Tlv.cells] at hp hq
      unfold err
      rw [callN_run (fn := Tryz.f6) rfl rfl rfl (by simp [Tryz.ntmps6])]
      generalize hC : (envG G).ctx 6 (callN (envG G) F (n+80)) (callP (envG G) F (n+80)) = C
      have htt : C.tt = (envG G).tt := by rw [← hC]; rfl
      have hlin : C.lin = [] := by rw [← hC]; rfl
      have hreg : C.reg = reg6 := by rw [← hC]; rfl
      have hcall : C.call = callN (envG G) F (n+80) := by rw [← hC]; rfl
      have hcallP : C.callP = callP (envG G) F (n+80) := by rw [← hC]; rfl
      have hlv_200007 : C.live 200007 = [] := by rw [← hC]; rfl
      have hlv_250007 : C.live 250007 = [] := by rw [← hC]; rfl
      clear hC
      simp [htt, hlin, hreg, reg6, hcall, hcallP, hlv_200007, hlv_250007, hp, hq]
    | some q =>
      obtain ⟨k0, r, s⟩ := q
      rw [hs] at hq
      obtain ⟨h1, h2⟩ := sigParts_six hs
      obtain ⟨r0, r1, r2, r3, r4, r5, rfl⟩ := six h1
      obtain ⟨s0, s1, s2, s3, s4, s5, rfl⟩ := six h2
      clear hs h1 h2
      generalize k0.enc = en at *
      obtain ⟨y1, y2, y3, y4, y5, y6, y7⟩ := k0
      simp only [partsV, sigD, Tlv.cells, List.map, List.cons_append, List.nil_append] at hq ⊢
      obtain ⟨x1, x2, x3, x4, x5, x6, x7⟩ := x
      simp only [parseV, Tlv.cells] at hp hq
      rw [callN_run (fn := Tryz.f6) rfl rfl rfl (by simp [Tryz.ntmps6])]
      generalize hC : (envG G).ctx 6 (callN (envG G) F (n+80)) (callP (envG G) F (n+80)) = C
      have htt : C.tt = (envG G).tt := by rw [← hC]; rfl
      have hlin : C.lin = [] := by rw [← hC]; rfl
      have hreg : C.reg = reg6 := by rw [← hC]; rfl
      have hcall : C.call = callN (envG G) F (n+80) := by rw [← hC]; rfl
      have hcallP : C.callP = callP (envG G) F (n+80) := by rw [← hC]; rfl
      have hlv_200007 : C.live 200007 = [] := by rw [← hC]; rfl
      have hlv_250007 : C.live 250007 = [] := by rw [← hC]; rfl
      clear hC
      simp [htt, hlin, hreg, reg6, hcall, hcallP, hlv_200007, hlv_250007, hp, hq]
theorem t_Open (F : Nat) (hF : 1048580 < F) (hF2 : F ≤ 140737488355328) (n : Nat) (x : Tlv)
    (hk : ∀ y ∈ x.kids, y.plainOk ∧ y.fine = true ∧ y.depth ≤ 16 ∧ y.weight ≤ 1048576 ∧ y.enc.length ≤ 1048576) :
    ∃ (y : Tlv) (nl : Bool) (e : List Int) (r0 r1 r2 r3 r4 r5 s0 s1 s2 s3 s4 s5 : Int), callN (envG G) F (n + 41) 9 [.d (.agg x.cells), .d (.bool true)] = some ⟨[.d (.agg y.cells), .d (.nums .u8 nl e), .d (sigD [r0, r1, r2, r3, r4, r5] [s0, s1, s2, s3, s4, s5]), .d (.bool (sigParts x).isSome)], []⟩ ∧
      ∀ q, sigParts x = some q → q.1 = y ∧ y.enc = e ∧ q.2 = ([r0, r1, r2, r3, r4, r5], [s0, s1, s2, s3, s4, s5]) ∧ e.length ≤ 1048576 := by
  have hl : ∀ x1 x2 x3 x4 x5 x6 x7, callN (envG G) F (n + 40) _ _ = _ := fun x1 x2 x3 x4 x5 x6 x7 => t_r16IsL (G := G) F (n + 39) x1 x2 x3 x4 x5 x6 x7
  have hd : ∀ (nl : Bool) (b : List Int) (h : nl = true → b = []) (h2 : ∀ c ∈ b, 0 ≤ c ∧ c < 256), ∃ r0 r1 r2 r3 r4 r5 s0 s1 s2 s3 s4 s5, callN (envG G) F (n + 40) _ _ = _ ∧ _ := fun nl b h h2 => t_r14Decode (G := G) F hF hF2 n b nl h h2
  have hb : ∀ (x : Tlv) (h : x.plainOk), ∃ nl ys, callN (envG G) F (n + 40) _ _ = _ ∧ _ := fun x h => t_rBitsOf (G := G) F (n + 38) (by omega) x h
  have hw : ∀ y : Tlv, y.fine = true → y.depth ≤ 16 → y.weight ≤ 1048576 → y.enc.length ≤ 1048576 → callN (envG G) F (n + 40) 24 [.d (.agg y.cells)] = some ⟨[.d (.nums .u8 false y.enc), .d (.int .i64 0)], []⟩ := fun y h1 h2 h3 h4 => by
    have hbw : badW y = 0 := by
      unfold badW
      rw [if_neg (by simp [h1]), if_neg (by omega), if_neg (by omega)]
    have k : callN (envG G) F (n + 40) _ _ = _ := t_rWrite (G := G) F hF2 1048576 (by omega) 16 (n + 23) y (by omega) h2 (weight_width (W := 1048576) y h3) (by omega)
    rw [hbw] at k
    simpa using k
  obtain ⟨x1, x2, x3, x4, x5, x6, x7⟩ := x
  simp only [Tlv.kids] at hk
  have hl := hl x1 x2 x3 x4 x5 x6 x7
  simp only [Tlv.cells]
  have hc7 := cellsL_len x7
  by_cases h : x1 = 0 ∧ x2 = 16 ∧ x3 = true
  case neg =>
    have hs : sigParts (.mk x1 x2 x3 x4 x5 x6 x7) = none := by
      rcases x7 with _ | ⟨k0, _ | ⟨k1, _ | ⟨k2, t⟩⟩⟩
      · rfl
      · rfl
      · simp only [sigParts]
        rw [if_neg h]
      · rfl
    rw [decide_eq_false h] at hl
    refine ⟨zeroT, true, [], 0, 0, 0, 0, 0, 0, 0, 0, 0, 0, 0, 0, ?_, by rw [hs]; simp⟩
    simp only [hs, zeroT, sigD, Tlv.cells, Tlv.cellsL, List.map, List.cons_append, List.nil_append, Option.isSome]
    clear hd hb hw hk
    rw [callN_run (fn := Tryz.f9) rfl rfl rfl (by simp [Tryz.ntmps9])]
    generalize hC : (envG G).ctx 9 (callN (envG G) F (n+40)) (callP (envG G) F (n+40)) = C
    have htt : C.tt = (envG G).tt := by rw [← hC]; rfl
    have hlin : C.lin = [] := by rw [← hC]; rfl
    have hreg : C.reg = reg9 := by rw [← hC]; rfl
    have hcall : C.call = callN (envG G) F (n+40) := by rw [← hC]; rfl
    have hcallP : C.callP = callP (envG G) F (n+40) := by rw [← hC]; rfl
    have hlv_200007 : C.live 200007 = [] := by rw [← hC]; rfl
    have hlv_250007 : C.live 250007 = [] := by rw [← hC]; rfl
    have hlv_200011 : C.live 200011 = [5, 17] := by rw [← hC]; rfl
    have hlv_250011 : C.live 250011 = [] := by rw [← hC]; rfl
    have hlv_300011 : C.live 300011 = [4] := by rw [← hC]; rfl
    clear hC
    simp [htt, hlin, hreg, reg9, hcall, hcallP, hlv_200007, hlv_250007, hlv_200011, hlv_250011, hlv_300011, hl]
  case pos =>
    rw [decide_eq_true h] at hl
    by_cases h7 : x7.length = 2
    case neg =>
      have hs : sigParts (.mk x1 x2 x3 x4 x5 x6 x7) = none := by
        rcases x7 with _ | ⟨k0, _ | ⟨k1, _ | ⟨k2, t⟩⟩⟩
        · rfl
        · rfl
        · simp at h7
        · rfl
      refine ⟨zeroT, true, [], 0, 0, 0, 0, 0, 0, 0, 0, 0, 0, 0, 0, ?_, by rw [hs]; simp⟩
      simp only [hs, zeroT, sigD, Tlv.cells, Tlv.cellsL, List.map, List.cons_append, List.nil_append, Option.isSome]
      have h7' : ¬ (x7.length : Int) = 2 := by omega
      clear hd hb hw hk
      rw [callN_run (fn := Tryz.f9) rfl rfl rfl (by simp [Tryz.ntmps9])]
      generalize hC : (envG G).ctx 9 (callN (envG G) F (n+40)) (callP (envG G) F (n+40)) = C
      have htt : C.tt = (envG G).tt := by rw [← hC]; rfl
      have hlin : C.lin = [] := by rw [← hC]; rfl
      have hreg : C.reg = reg9 := by rw [← hC]; rfl
      have hcall : C.call = callN (envG G) F (n+40) := by rw [← hC]; rfl
      have hcallP : C.callP = callP (envG G) F (n+40) := by rw [← hC]; rfl
      have hlv_200007 : C.live 200007 = [] := by rw [← hC]; rfl
      have hlv_250007 : C.live 250007 = [] := by rw [← hC]; rfl
      have hlv_200011 : C.live 200011 = [5, 17] := by rw [← hC]; rfl
      have hlv_250011 : C.live 250011 = [] := by rw [← hC]; rfl
      have hlv_300011 : C.live 300011 = [4] := by rw [← hC]; rfl
      clear hC
      simp [htt, hlin, hreg, reg9, hcall, hcallP, hlv_200007, hlv_250007, hlv_200011, hlv_250011, hlv_300011, hl, hc7, h7, h7']
    case pos =>
      obtain ⟨rfl, rfl, rfl⟩ := h
      obtain ⟨k0, k1, rfl⟩ := two_of h7
      obtain ⟨_, w1, w2, w3, w4⟩ := hk k0 (by simp)
      obtain ⟨pl, _⟩ := hk k1 (by simp)
      have hw := hw k0 w1 w2 w3 w4
      obtain ⟨nl, ys, hb1, hb2, hb3, hb4⟩ := hb k1 pl
      obtain ⟨r0, r1, r2, r3, r4, r5, s0, s1, s2, s3, s4, s5, hd1, hd2⟩ := hd nl ys hb2 hb3
      refine ⟨k0, false, k0.enc, r0, r1, r2, r3, r4, r5, s0, s1, s2, s3, s4, s5, ?_, fun q hq => ?_⟩
      · have hs : (sigParts (.mk 0 16 true x4 x5 x6 [k0, k1])).isSome = (k1.bits.isSome && (sigB ys).isSome) := by
          simp only [sigParts, true_and, if_true]
          cases hbt : k1.bits with
          | none => rfl
          | some t =>
            rw [hb4 t hbt]
            simp only [Option.isSome, Bool.true_and]
            cases sigB t with
            | none => rfl
            | some q => rfl
        rw [hs]
        generalize k1.bits.isSome = bs at *
        generalize (sigB ys).isSome = ds at *
        generalize k0.enc = en at *
        clear hd hb hk w1 w2 w3 w4 pl hd2 hb4 hb2 hb3
        obtain ⟨y1, y2, y3, y4, y5, y6, y7⟩ := k0
        obtain ⟨z1, z2, z3, z4, z5, z6, z7⟩ := k1
        simp only [Tlv.cellsL, Tlv.cells, sigD, List.map, List.cons_append, List.nil_append] at *
        rw [callN_run (fn := Tryz.f9) rfl rfl rfl (by simp [Tryz.ntmps9])]
        generalize hC : (envG G).ctx 9 (callN (envG G) F (n+40)) (callP (envG G) F (n+40)) = C
        have htt : C.tt = (envG G).tt := by rw [← hC]; rfl
        have hlin : C.lin = [] := by rw [← hC]; rfl
        have hreg : C.reg = reg9 := by rw [← hC]; rfl
        have hcall : C.call = callN (envG G) F (n+40) := by rw [← hC]; rfl
        have hcallP : C.callP = callP (envG G) F (n+40) := by rw [← hC]; rfl
        have hlv_200007 : C.live 200007 = [] := by rw [← hC]; rfl
        have hlv_250007 : C.live 250007 = [] := by rw [← hC]; rfl
        have hlv_200011 : C.live 200011 = [5, 17] := by rw [← hC]; rfl
        have hlv_250011 : C.live 250011 = [] := by rw [← hC]; rfl
        have hlv_300011 : C.live 300011 = [4] := by rw [← hC]; rfl
        clear hC
        cases bs <;> cases ds <;> simp [htt, hlin, hreg, reg9, hcall, hcallP, hlv_200007, hlv_250007, hlv_200011, hlv_250011, hlv_300011, hl, hb1, hd1, hw]
      · simp only [sigParts, true_and, if_true] at hq
        split at hq
        · rename_i t ht
          rw [hb4 t ht] at hd2
          split at hq
          · rename_i r s hrs
            injection hq with hq
            subst hq
            exact ⟨rfl, rfl, hd2 _ hrs, w4⟩
          · cases hq
        · cases hq
end Go.Proofs.YtjmcgdhekjkjfaaGreatDoor
set_option linter.unusedSimpArgs false
set_option linter.unusedVariables false
namespace Go.Proofs.YtjmcgdhekjkjfaaGreatDoor
open Go Go.VM
variable {G : GE}
set_option maxRecDepth 100000
set_option maxHeartbeats 4000000
def IsG (G : GE) : Prop := ∀ args, G.ext 18 args = isX args
theorem u_Is_spot (hG : IsG G) (F n : Nat) (q k p c : Int) : callN (envG G) F (n+1) 18 [.d (spotD k q), .d (.int .i64 p), .d (.int .i64 c)] = some ⟨[.d (.bool (decide (q = p ∧ k = c)))], []⟩ := by
  rw [callN_succ]
  have : (envG G).ext 18 [.d (spotD k q), .d (.int .i64 p), .d (.int .i64 c)] = some ⟨[.d (.bool (decide (q = p ∧ k = c)))], []⟩ := by
    show G.ext _ _ = _
    rw [hG]; rfl
  rw [this]
theorem u_Is_err (hG : IsG G) (F n : Nat) (k p c : Int) : callN (envG G) F (n+1) 18 [.d (err k), .d (.int .i64 p), .d (.int .i64 c)] = some ⟨[.d (.bool false)], []⟩ := by
  rw [callN_succ]
  have : (envG G).ext 18 [.d (err k), .d (.int .i64 p), .d (.int .i64 c)] = some ⟨[.d (.bool false)], []⟩ := by
    show G.ext _ _ = _
    rw [hG]; rfl
  rw [this]
theorem u_Is_nil (hG : IsG G) (F n : Nat) (p c : Int) : callN (envG G) F (n+1) 18 [.d .nilifc, .d (.int .i64 p), .d (.int .i64 c)] = some ⟨[.d (.bool false)], []⟩ := by
  rw [callN_succ]
  have : (envG G).ext 18 [.d .nilifc, .d (.int .i64 p), .d (.int .i64 c)] = some ⟨[.d (.bool false)], []⟩ := by
    show G.ext _ _ = _
    rw [hG]; rfl
  rw [this]
end Go.Proofs.YtjmcgdhekjkjfaaGreatDoor
set_option linter.unusedSimpArgs false
set_option linter.unusedVariables false
namespace Go.Proofs.YtjmcgdhekjkjfaaGreatDoor
open Go Go.VM
variable {G : GE}
set_option maxRecDepth 100000
set_option maxHeartbeats 4000000
theorem t_told20 (hG : IsG G) (F n : Nat) (hF : 22 < F) (c p : Int) (h : (p = -1 ∧ c = 2) ∨ 0 ≤ p ∧ 1 ≤ c ∧ c ≤ 9) :
    callN (envG G) F (n+2) 8 [.d (atD c p), .d (.int .i64 c), .d (.int .i64 p)] = some ⟨[.d (.bool true)], []⟩ := by
  have k1 := t_Code (G := G) F n hF c
  have k2 := u_Is_spot (G := G) hG F n p c p c
  rw [decide_eq_true ⟨rfl, rfl⟩] at k2
  rw [callN_run (fn := Tryz.f8) rfl rfl rfl (by simp [Tryz.ntmps8])]
  generalize hC : (envG G).ctx 8 (callN (envG G) F (n+1)) (callP (envG G) F (n+1)) = C
  have htt : C.tt = (envG G).tt := by rw [← hC]; rfl
  have hlin : C.lin = [] := by rw [← hC]; rfl
  have hreg : C.reg = reg8 := by rw [← hC]; rfl
  have hcall : C.call = callN (envG G) F (n+1) := by rw [← hC]; rfl
  have hcallP : C.callP = callP (envG G) F (n+1) := by rw [← hC]; rfl
  unfold atD
  by_cases h0 : p < 0
  · rw [if_pos h0]
    rw [if_pos (by omega)] at k1
    unfold err at *
    simp [htt, hlin, hreg, reg8, hcall, hcallP, h0, k1]
  · rw [if_neg h0]
    unfold spotD err at *
    simp [htt, hlin, hreg, reg8, hcall, hcallP, h0, k2]
end Go.Proofs.YtjmcgdhekjkjfaaGreatDoor
set_option linter.unusedSimpArgs false
set_option linter.unusedVariables false
namespace Go.Proofs.YtjmcgdhekjkjfaaGreatDoor
open Go Go.VM
set_option maxRecDepth 100000
set_option maxHeartbeats 8000000
def extS (f : FuncId) (args : List V) : Option Ret := match Nat.beq f 18 with
  | true => isX args
  | false => match Nat.beq f 98 with
    | true => subX args
    | false => none
def dataS (g : Nat) : Option (List D) := match Nat.beq g 1 with
  | true => some groupC
  | false => none
noncomputable def gSg : GE := { glob := fun g => match Nat.beq g 0 with | true => some errT | false => dataS g, ext := extS }
theorem s_bits : SubB gSg := fun _ => rfl
theorem s_is : IsG gSg := fun _ => rfl
theorem s_group : GroupG gSg := rfl
theorem s_sub : SubK gSg := fun F n a0 a1 a2 a3 a4 a5 b0 b1 b2 b3 b4 b5 hF => t_lSub (G := gSg) s_bits (fun _ => rfl) F n hF a0 a1 a2 a3 a4 a5 b0 b1 b2 b3 b4 b5
theorem up20_0 : callN (envG gSg) 200 60 5 [] = some ⟨[.d (.bool true)], []⟩ := by kernel_rfl
theorem up20 (F n : Nat) (hf : 200 ≤ F) (hn : 60 ≤ n) : callN (envG gSg) F n 5 [] = some ⟨[.d (.bool true)], []⟩ := callN_mono hf hn up20_0
end Go.Proofs.YtjmcgdhekjkjfaaGreatDoor
set_option linter.unusedSimpArgs false
set_option linter.unusedVariables false
namespace Go.Proofs.YtjmcgdhekjkjfaaGreatDoor
open Go Go.VM
set_option maxRecDepth 100000
set_option maxHeartbeats 8000000
theorem sd_law (F : Nat) (hF : 1048580 < F) (hF2 : F ≤ 140737488355328) (n : Nat) (b : List Int) (nl : Bool) (hnl : nl = true → b = []) (hb : ∀ c ∈ b, 0 ≤ c ∧ c < 256) :
    callN (envG gSg) F (n + 90) 3 [.d (.nums .u8 nl b)] = some ⟨[.d (.bool true)], []⟩ := by
  have hu := up20 F (n + 89) (by omega) (by omega)
  have hs : callN (envG gSg) F (n + 89) _ _ = _ := t_Signed (G := gSg) s_sub s_group F hF hF2 (n + 8) b nl hnl hb
  have hp : callN (envG gSg) F (n + 89) _ _ = _ := t_rParse (G := gSg) F hF (n + 69) b nl hnl hb
  have ht : ∀ c p, _ → callN (envG gSg) F (n + 89) _ _ = _ := fun c p h => t_told20 (G := gSg) s_is F (n + 87) (by omega) c p h
  have ho : ∀ x, parseB b = .ok x → ∃ (y : Tlv) (nl : Bool) (e : List Int) (r0 r1 r2 r3 r4 r5 s0 s1 s2 s3 s4 s5 : Int), callN (envG gSg) F (n + 89) _ _ = _ ∧ _ := fun x hx => t_Open (G := gSg) F hF hF2 (n + 48) x (kids_ok hb hx)
  have hbad : ∀ c p, parseB b = .bad c p → _ := fun c p h => parseB_bad2 h
  rw [callN_run (fn := Tryz.f3) rfl rfl rfl (by simp [Tryz.ntmps3])]
  generalize hC : (envG gSg).ctx 3 (callN (envG gSg) F (n+89)) (callP (envG gSg) F (n+89)) = C
  have htt : C.tt = (envG gSg).tt := by rw [← hC]; rfl
  have hlin : C.lin = [] := by rw [← hC]; rfl
  have hreg : C.reg = reg3 := by rw [← hC]; rfl
  have hcall : C.call = callN (envG gSg) F (n+89) := by rw [← hC]; rfl
  have hcallP : C.callP = callP (envG gSg) F (n+89) := by rw [← hC]; rfl
  clear hC
  by_cases c1 : 50000 < b.length ∧ b.length ≤ 1048576
  · have f1 : (50000 : Int) < b.length := by omega
    have f2 : (b.length : Int) ≤ 1048576 := by omega
    have f2' : ¬ (1048576 : Int) < b.length := by omega
    simp [htt, hlin, hreg, reg3, hcall, hcallP, hu, f1, f2, f2']
  · generalize hpb : parseB b = r at *
    have fl : ((50000 : Int) < b.length ∧ ¬ (b.length : Int) ≤ 1048576) ∨ (¬ (50000 : Int) < b.length) := by
      by_cases h : (50000 : Int) < b.length
      · exact .inl ⟨h, by omega⟩
      · exact .inr h
    cases r with
    | bad c p =>
      have hq2 := hbad c p rfl
      have ht := ht c p hq2
      clear hbad ho
      simp only [signedV, rparseV, zeroT, Tlv.cells, Tlv.cellsL, noSig, sigD, List.map, List.cons_append, List.nil_append] at hs hp
      have hc0 : ¬ c = 0 := by omega
      have hne : ∃ t x, atD c p = .ifc t x := by
        unfold atD; split
        · exact ⟨_, _, rfl⟩
        · exact ⟨_, _, rfl⟩
      obtain ⟨t, x, hne⟩ := hne
      rw [hne] at hs ht
      rcases fl with ⟨f1, f2⟩ | f1
      · simp [htt, hlin, hreg, reg3, hcall, hcallP, hu, hs, hp, ht, hc0, f1, f2, bin_eq_agg, (sig_eq (G := gSg))]
      · simp [htt, hlin, hreg, reg3, hcall, hcallP, hu, hs, hp, ht, hc0, f1, bin_eq_agg, (sig_eq (G := gSg))]
    | ok x =>
      have hlb : b.length ≤ 1048576 := (parseB_ok hb hpb).1
      have f1 : ¬ (50000 : Int) < b.length := by omega
      obtain ⟨y, m, e, r0, r1, r2, r3, r4, r5, s0, s1, s2, s3, s4, s5, ho1, ho2⟩ := ho x rfl
      clear fl hbad ht ho
      simp only [signedV] at hs
      obtain ⟨y1, y2, y3, y4, y5, y6, y7⟩ := y
      simp only [Tlv.cells] at ho1
      cases hq : sigParts x with
      | none =>
        rw [hq] at hs ho1
        clear ho2
        obtain ⟨x1, x2, x3, x4, x5, x6, x7⟩ := x
        simp only [rparseV, Tlv.cells, noSig, sigD, List.map, List.cons_append, List.nil_append, Option.isSome] at hs hp ho1
        unfold err at hs
        simp [htt, hlin, hreg, reg3, hcall, hcallP, hu, hs, hp, ho1, f1, bin_eq_agg, (sig_eq (G := gSg))]
      | some q =>
        rw [hq] at hs ho1
        obtain ⟨k0, r, s⟩ := q
        obtain ⟨e1, e2, e3, e4⟩ := ho2 _ hq
        clear ho2 hq
        change k0 = _ at e1
        change (r, s) = _ at e3
        have he : e.length ≤ 140737488355328 := by omega
        clear e4
        simp only at hs
        rw [e1, e2] at hs
        clear e1 e2
        obtain ⟨e3, e5⟩ := Prod.mk.inj e3
        rw [e3, e5] at hs
        clear e3 e5
        obtain ⟨x1, x2, x3, x4, x5, x6, x7⟩ := x
        simp only [rparseV, Tlv.cells, sigD, List.map, List.cons_append, List.nil_append, Option.isSome] at hs hp ho1
        simp [htt, hlin, hreg, reg3, hcall, hcallP, hu, hs, hp, ho1, f1, he, bin_eq_agg, (sig_eq (G := gSg))]
end Go.Proofs.YtjmcgdhekjkjfaaGreatDoor
