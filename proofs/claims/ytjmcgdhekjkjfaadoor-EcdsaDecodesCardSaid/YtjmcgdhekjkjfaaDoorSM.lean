/- The law DerParses, reckoned by the machine over values, hands back true: for all bytes. -/
import Derived.Test.YtjmcgdhekjkjfaaDoorSL
import Derived.Test.YtjmcgdhekjkjfaaDoorSC
import Derived.Test.YtjmcgdhekjkjfaaDoorSG
import Derived.Test.YtjmcgdhekjkjfaaDoorSJ
import Derived.Test.YtjmcgdhekjkjfaaDoorSK
import Derived.Test.YtjmcgdhekjkjfaaDoorRows
import Derived.WalkKit
import Derived.ProofKit
import Derived.OpenShut
import Derived.ShutString
import Derived.ChangeOld
import Derived.ChangeSame
import Derived.ChangeVars
import Derived.JoinedOf
import Derived.Below
import Derived.SizedLaws
import Derived.LaidLaws
import Derived.LaidHandle
import Derived.Stop.Joined
import Derived.Test.YtjmcgdhekjkjfaaDoorVMU
import Derived.Lay
set_option linter.unusedSimpArgs false
set_option linter.unusedVariables false
namespace Go.Proofs.YtjmcgdhekjkjfaaDoor
open Go Go.VM
set_option maxRecDepth 100000
set_option maxHeartbeats 4000000

mutual
theorem same_refl : ∀ x : Tlv, x.same x = true
  | .mk c t m bn b kn ks => by simp only [Tlv.same, Bool.and_eq_true, decide_eq_true_eq]; exact ⟨by simp, same_reflL ks⟩
theorem same_reflL : ∀ l : List Tlv, Tlv.sameL l l = true
  | [] => rfl
  | x :: l => by simp only [Tlv.sameL, same_refl x, same_reflL l, Bool.and_self]
end

theorem parseB_bad {b : List Int} {c p : Int} (h : parseB b = .bad c p) : (p = -1 ∧ c = 2) ∨ 0 ≤ p ∧ 1 ≤ c ∧ c ≤ 9 := by
  unfold parseB at h
  split at h
  · injection h with h1 h2; exact .inl ⟨h2.symm, h1.symm⟩
  · split at h
    · rename_i h1; injection h with h2 h3; subst h2; subst h3; exact .inr (elemB_place h1)
    · split at h
      · injection h with h2 h3; omega
      · cases h

theorem p_law (F : Nat) (hF : 1048580 < F) (hF2 : F ≤ 140737488355328) (n : Nat) (b : List Int) (nl : Bool) (hnl : nl = true → b = []) (hb : ∀ c ∈ b, 0 ≤ c ∧ c < 256) :
    callN (envG gErr) F (n + 60) 3 [.d (.nums .u8 nl b)] = some ⟨[.d (.bool true)], []⟩ := by
  have hu := up F (n + 59) (by omega) (by omega)
  have hp : callN (envG gErr) F (n + 59) _ _ = _ := t_Parse (G := gErr) F hF (n + 39) b nl hnl hb
  have hr : callN (envG gErr) F (n + 59) _ _ = _ := t_rParse (G := gErr) F hF (n + 39) b nl hnl hb
  have hc : callN (envG gErr) F (n + 59) _ _ = _ := t_Code (G := gErr) F (n + 58) (by omega) 2
  have hi : ∀ q k p c, callN (envG gErr) F (n + 59) _ _ = _ := fun q k p c => t_Is_spot F (n + 58) q k p c
  have hz : callN (envG gErr) F (n + 59) _ _ = _ := t_same (G := gErr) F hF2 1048576 (by omega) 16 (n + 43) zeroT zeroT (by simp [zeroT, Tlv.depth, Tlv.depthL]) (by simp [zeroT, Tlv.width, Tlv.widthL]) (by simp [zeroT, Tlv.width, Tlv.widthL])
  rw [same_refl] at hz
  have hok : ∀ x, parseB b = .ok x → callN (envG gErr) F (n + 59) 14 [.d (.agg x.cells), .d (.agg x.cells)] = some ⟨[.d (.bool true)], []⟩ := fun x hx => by
    have h := parseB_ok hb hx
    have hw := weight_width (W := 1048576) x (by omega)
    have := t_same (G := gErr) F hF2 1048576 (by omega) 16 (n + 43) x x h.2.2.2.1 hw hw
    rw [same_refl] at this
    exact this
  have hbad : ∀ c p, parseB b = .bad c p → _ := fun c p h => parseB_bad h
  rw [callN_run (fn := Tryd.f3) rfl rfl rfl (by simp [Tryd.ntmps3])]
  generalize hC : (envG gErr).ctx 3 (callN (envG gErr) F (n+59)) (callP (envG gErr) F (n+59)) = C
  have htt : C.tt = (envG gErr).tt := by rw [← hC]; rfl
  have hlin : C.lin = [] := by rw [← hC]; rfl
  have hreg : C.reg = reg3 := by rw [← hC]; rfl
  have hcall : C.call = callN (envG gErr) F (n+59) := by rw [← hC]; rfl
  have hcallP : C.callP = callP (envG gErr) F (n+59) := by rw [← hC]; rfl
  clear hC
  by_cases c1 : 100000 < b.length ∧ b.length ≤ 1048576
  · have f1 : (100000 : Int) < b.length := by omega
    have f2 : (b.length : Int) ≤ 1048576 := by omega
    have f2' : ¬ (1048576 : Int) < b.length := by omega
    simp [htt, hlin, hreg, reg3, hcall, hcallP, hu, f1, f2, f2']
  · generalize hpb : parseB b = r at *
    cases r with
    | ok x =>
      have hs := hok x rfl
      clear hok hbad
      simp only [parseV, rparseV] at hp hr
      obtain ⟨x1, x2, x3, x4, x5, x6, x7⟩ := x
      simp only [Tlv.cells] at hp hr hs
      by_cases f1 : (100000 : Int) < b.length
      · have f2 : (1048576 : Int) < b.length := by omega
        have f2' : ¬ (b.length : Int) ≤ 1048576 := by omega
        cases x4 <;> cases x6 <;> simp [htt, hlin, hreg, reg3, hcall, hcallP, hu, hp, hr, hs, f1, f2, f2']
      · cases x4 <;> cases x6 <;> simp [htt, hlin, hreg, reg3, hcall, hcallP, hu, hp, hr, hs, f1]
    | bad c p =>
      have hq := hbad c p rfl
      clear hok hbad
      simp only [parseV, rparseV, zeroT, Tlv.cells, Tlv.cellsL] at hp hr hz
      have hc0 : ¬ c = 0 := by omega
      unfold atD at hp
      by_cases f1 : (100000 : Int) < b.length
      · have f2 : (1048576 : Int) < b.length := by omega
        have f2' : ¬ (b.length : Int) ≤ 1048576 := by omega
        by_cases hp0 : p < 0
        · have hc2 : c = 2 := by omega
          have hp1 : p = -1 := by omega
          subst hc2; subst hp1
          rw [if_pos hp0] at hp
          unfold err at hp hc
          simp at hc
          simp [htt, hlin, hreg, reg3, hcall, hcallP, hu, hp, hr, hz, hc, f1, f2, f2']
        · rw [if_neg hp0] at hp
          have hi' := hi p c p c
          unfold spotD err at hp hi'
          simp at hi'
          simp [htt, hlin, hreg, reg3, hcall, hcallP, hu, hp, hr, hz, hc0, hp0, hi', f1, f2, f2']
      · by_cases hp0 : p < 0
        · have hc2 : c = 2 := by omega
          have hp1 : p = -1 := by omega
          subst hc2; subst hp1
          rw [if_pos hp0] at hp
          unfold err at hp hc
          simp at hc
          simp [htt, hlin, hreg, reg3, hcall, hcallP, hu, hp, hr, hz, hc, f1]
        · rw [if_neg hp0] at hp
          have hi' := hi p c p c
          unfold spotD err at hp hi'
          simp at hi'
          simp [htt, hlin, hreg, reg3, hcall, hcallP, hu, hp, hr, hz, hc0, hp0, hi', f1]
end Go.Proofs.YtjmcgdhekjkjfaaDoor

/- What the law's Is hands back, whatever else is laid. -/
set_option linter.unusedSimpArgs false
set_option linter.unusedVariables false
namespace Go.Proofs.YtjmcgdhekjkjfaaDoor
open Go Go.VM
variable {G : GE}
set_option maxRecDepth 100000
set_option maxHeartbeats 4000000

/-- The law's Is is told apart. -/
def IsG (G : GE) : Prop := ∀ args, G.ext 16 args = isX args

theorem u_Is_spot (hG : IsG G) (F n : Nat) (q k p c : Int) : callN (envG G) F (n+1) 16 [.d (spotD k q), .d (.int .i64 p), .d (.int .i64 c)] = some ⟨[.d (.bool (decide (q = p ∧ k = c)))], []⟩ := by
  rw [callN_succ]
  have : (envG G).ext 16 [.d (spotD k q), .d (.int .i64 p), .d (.int .i64 c)] = some ⟨[.d (.bool (decide (q = p ∧ k = c)))], []⟩ := by
    show G.ext _ _ = _
    rw [hG]; rfl
  rw [this]
theorem u_Is_err (hG : IsG G) (F n : Nat) (k p c : Int) : callN (envG G) F (n+1) 16 [.d (err k), .d (.int .i64 p), .d (.int .i64 c)] = some ⟨[.d (.bool false)], []⟩ := by
  rw [callN_succ]
  have : (envG G).ext 16 [.d (err k), .d (.int .i64 p), .d (.int .i64 c)] = some ⟨[.d (.bool false)], []⟩ := by
    show G.ext _ _ = _
    rw [hG]; rfl
  rw [this]
theorem u_Is_nil (hG : IsG G) (F n : Nat) (p c : Int) : callN (envG G) F (n+1) 16 [.d .nilifc, .d (.int .i64 p), .d (.int .i64 c)] = some ⟨[.d (.bool false)], []⟩ := by
  rw [callN_succ]
  have : (envG G).ext 16 [.d .nilifc, .d (.int .i64 p), .d (.int .i64 c)] = some ⟨[.d (.bool false)], []⟩ := by
    show G.ext _ _ = _
    rw [hG]; rfl
  rw [this]
end Go.Proofs.YtjmcgdhekjkjfaaDoor

/- The law EcdsaDecodes, reckoned by the machine over values, hands back true: for all bytes. -/
set_option linter.unusedSimpArgs false
set_option linter.unusedVariables false
namespace Go.Proofs.YtjmcgdhekjkjfaaDoor
open Go Go.VM
set_option maxRecDepth 100000
set_option maxHeartbeats 8000000

theorem c_bits : BitsG gEc := ⟨fun _ => rfl, fun _ => rfl⟩
theorem c_is : IsG gEc := fun _ => rfl
theorem c_group : GroupG gEc := rfl
theorem c_sub : SubK gEc := fun F n a0 a1 a2 a3 a4 a5 b0 b1 b2 b3 b4 b5 hF => t_lSub (G := gEc) c_bits (fun _ => rfl) F n hF a0 a1 a2 a3 a4 a5 b0 b1 b2 b3 b4 b5

theorem t_To6 (F n : Nat) (hF : 60 ≤ F) (r : List Int) (h : r.length ≤ 12) : callN (envG gEc) F (n+3) 47 [.d (.nums .u64 false r)] = some ⟨[.d (limbD ((List.range 6).map (to6 (fun j => r.getD j 0) r.length)))], []⟩ := by
  have k := callN_mono hF (show 3 ≤ n + 3 by omega) (run_To6 (G := gEc) (fun j => r.getD j 0) r.length h)
  rw [range_getD r] at k
  exact k

theorem d_law (F : Nat) (hF : 1048580 < F) (hF2 : F ≤ 140737488355328) (n : Nat) (b : List Int) (nl : Bool) (hnl : nl = true → b = []) (hb : ∀ c ∈ b, 0 ≤ c ∧ c < 256) :
    callN (envG gEc) F (n + 60) 9 [.d (.nums .u8 nl b)] = some ⟨[.d (.bool true)], []⟩ := by
  have hu := up14 F (n + 42) (by omega)
  have hd : callN (envG gEc) F (n + 59) _ _ = _ := t_eDecode (G := gEc) c_sub c_group F hF (n + 29) b nl hnl hb
  have hp : callN (envG gEc) F (n + 59) _ _ = _ := t_rParse (G := gEc) F hF (n + 39) b nl hnl hb
  have hc : callN (envG gEc) F (n + 59) _ _ = _ := t_Code (G := gEc) F (n + 58) (by omega) 2
  have hi : ∀ q k p c, callN (envG gEc) F (n + 59) _ _ = _ := fun q k p c => u_Is_spot (G := gEc) c_is F (n + 58) q k p c
  have hq : ∀ x1 x2 x3 x4 x5 x6 x7 (h : x4 = true → x5 = []) (h2 : x5.length ≤ 140737488355327), _ := fun x1 x2 x3 x4 x5 x6 x7 h h2 => t_part (G := gEc) F (n + 57) x1 x2 x3 x4 x5 x6 x7 h h2
  have hf : ∀ (nl : Bool) (b : List Int) (h : ∀ c ∈ b, 0 ≤ c ∧ c < 256) (h2 : b.length ≤ 1048576), callN (envG gEc) F (n + 59) _ _ = _ := fun nl b h h2 => t_From (G := gEc) F (n + 57) nl b h h2 hF
  have hN : callN (envG gEc) F (n + 59) _ _ = _ := t_rN (G := gEc) F (n + 58)
  have hm : ∀ (a : List Int) (h : a.length ≤ 140737488355328) (h2 : a.length < F), callN (envG gEc) F (n + 59) _ _ = _ := fun a h h2 => t_Cmp (G := gEc) F (n + 58) false false a nL h h2
  have h6 : ∀ (r : List Int) (h : r.length ≤ 12), callN (envG gEc) F (n + 59) _ _ = _ := fun r h => t_To6 F (n + 56) (by omega) r h
  have hk : ∀ x, parseB b = .ok x → ∀ y ∈ x.kids, y.plainOk := fun x hx y hy => by
    have h := parseB_ok hb hx
    have h2 := parseB_nil hx
    obtain ⟨x1, x2, x3, x4, x5, x6, x7⟩ := x
    simp only [Tlv.kids] at hy
    have h3 := h.2.2.2.2.2
    simp only [Tlv.weight] at h3
    have h4 := weight_mem hy
    exact plainOk_of (W := 1048576) (nilOk_mem h2.2.2 hy) (bytesOk_mem h.2.2.2.2.1.2 hy) (by omega) (by omega)
  have hbad : ∀ c p, parseB b = .bad c p → _ := fun c p h => parseB_bad h
  rw [callN_run (fn := Tryd.f9) rfl rfl rfl (by simp [Tryd.ntmps9])]
  generalize hC : (envG gEc).ctx 9 (callN (envG gEc) F (n+59)) (callP (envG gEc) F (n+59)) = C
  have htt : C.tt = (envG gEc).tt := by rw [← hC]; rfl
  have hlin : C.lin = [] := by rw [← hC]; rfl
  have hreg : C.reg = reg9 := by rw [← hC]; rfl
  have hcall : C.call = callN (envG gEc) F (n+59) := by rw [← hC]; rfl
  have hcallP : C.callP = callP (envG gEc) F (n+59) := by rw [← hC]; rfl
  have hlv_200021 : C.live 200021 = [] := by rw [← hC]; rfl
  have hlv_250021 : C.live 250021 = [] := by rw [← hC]; rfl
  clear hC
  by_cases c1 : 20000 < b.length ∧ b.length ≤ 1048576
  · have f1 : (20000 : Int) < b.length := by omega
    have f2 : (b.length : Int) ≤ 1048576 := by omega
    have f2' : ¬ (1048576 : Int) < b.length := by omega
    simp [htt, hlin, hreg, reg9, hcall, hcallP, hlv_200021, hlv_250021, hu, f1, f2, f2']
  · generalize hpb : parseB b = r at *
    have fl : ∃ q, ((20000 : Int) < b.length ∧ ¬ (b.length : Int) ≤ 1048576 ∧ q = true) ∨ (¬ (20000 : Int) < b.length ∧ q = false) := by
      by_cases h : (20000 : Int) < b.length
      · exact ⟨true, .inl ⟨h, by omega, rfl⟩⟩
      · exact ⟨false, .inr ⟨h, rfl⟩⟩
    obtain ⟨q, fl⟩ := fl
    cases r with
    | bad c p =>
      have hq2 := hbad c p rfl
      clear hbad hk hq hf hm h6 hN
      simp only [sigV, rparseV, zeroT, Tlv.cells, Tlv.cellsL, noSig, sigD, List.map, List.cons_append, List.nil_append] at hd hp
      have hc0 : ¬ c = 0 := by omega
      unfold atD at hd
      rcases fl with ⟨f1, f2, _⟩ | ⟨f1, _⟩
      all_goals by_cases hp0 : p < 0
      · have hc2 : c = 2 := by omega
        have hp1 : p = -1 := by omega
        subst hc2; subst hp1
        rw [if_pos hp0] at hd
        unfold err at hd hc
        simp at hc
        simp [htt, hlin, hreg, reg9, hcall, hcallP, hlv_200021, hlv_250021, hu, hd, hp, hc, f1, f2, bin_eq_agg, (sig_eq (G := gEc))]
      · rw [if_neg hp0] at hd
        have hi' := hi p c p c
        unfold spotD err at hd hi'
        simp at hi'
        simp [htt, hlin, hreg, reg9, hcall, hcallP, hlv_200021, hlv_250021, hu, hd, hp, hc0, hp0, hi', f1, f2, bin_eq_agg, (sig_eq (G := gEc))]
      · have hc2 : c = 2 := by omega
        have hp1 : p = -1 := by omega
        subst hc2; subst hp1
        rw [if_pos hp0] at hd
        unfold err at hd hc
        simp at hc
        simp [htt, hlin, hreg, reg9, hcall, hcallP, hlv_200021, hlv_250021, hu, hd, hp, hc, f1, bin_eq_agg, (sig_eq (G := gEc))]
      · rw [if_neg hp0] at hd
        have hi' := hi p c p c
        unfold spotD err at hd hi'
        simp at hi'
        simp [htt, hlin, hreg, reg9, hcall, hcallP, hlv_200021, hlv_250021, hu, hd, hp, hc0, hp0, hi', f1, bin_eq_agg, (sig_eq (G := gEc))]
    | ok x =>
      have hlb : b.length ≤ 1048576 := (parseB_ok hb hpb).1
      have f1 : ¬ (20000 : Int) < b.length := by omega
      clear fl hbad hi hc
      obtain ⟨x1, x2, x3, x4, x5, x6, x7⟩ := x
      have hk' := hk _ rfl
      have hwt := (parseB_ok hb hpb).2.2.2.2.2
      simp only [Tlv.kids] at hk'
      clear hk
      simp only [rparseV, Tlv.cells] at hp
      have hc7 := cellsL_len x7
      by_cases h4 : x7.length = 2
      case neg =>
        have hs : sigOf (.mk x1 x2 x3 x4 x5 x6 x7) = .inl 7 := by
          rcases x7 with _ | ⟨a, _ | ⟨b, _ | ⟨c, t⟩⟩⟩ <;> first | rfl | (simp at h4)
        simp only [sigV, hs, noSig, sigD, List.map, List.cons_append, List.nil_append] at hd
        unfold err at hd
        have h4' : ¬ (x7.length : Int) = 2 := by omega
        by_cases h1 : x1 = 0
        · by_cases h2 : x2 = 16
          · cases x3 <;> simp [htt, hlin, hreg, reg9, hcall, hcallP, hlv_200021, hlv_250021, hu, hd, hp, f1, h1, h2, hc7, h4, h4', bin_eq_agg, (sig_eq (G := gEc))]
          · simp [htt, hlin, hreg, reg9, hcall, hcallP, hlv_200021, hlv_250021, hu, hd, hp, f1, h1, h2, bin_eq_agg, (sig_eq (G := gEc))]
        · simp [htt, hlin, hreg, reg9, hcall, hcallP, hlv_200021, hlv_250021, hu, hd, hp, f1, h1, bin_eq_agg, (sig_eq (G := gEc))]
      case pos =>
        obtain ⟨k0, k1, rfl⟩ := two_of h4
        by_cases h : x1 = 0 ∧ x2 = 16 ∧ x3 = true
        case neg =>
          have hs : sigOf (.mk x1 x2 x3 x4 x5 x6 [k0, k1]) = .inl 7 := by
            simp only [sigOf, if_neg h]
          simp only [sigV, hs, noSig, sigD, List.map, List.cons_append, List.nil_append] at hd
          unfold err at hd
          by_cases h1 : x1 = 0
          · by_cases h2 : x2 = 16
            · cases x3
              · simp [htt, hlin, hreg, reg9, hcall, hcallP, hlv_200021, hlv_250021, hu, hd, hp, f1, h1, h2, bin_eq_agg, (sig_eq (G := gEc))]
              · exact absurd ⟨h1, h2, rfl⟩ h
            · simp [htt, hlin, hreg, reg9, hcall, hcallP, hlv_200021, hlv_250021, hu, hd, hp, f1, h1, h2, bin_eq_agg, (sig_eq (G := gEc))]
          · simp [htt, hlin, hreg, reg9, hcall, hcallP, hlv_200021, hlv_250021, hu, hd, hp, f1, h1, bin_eq_agg, (sig_eq (G := gEc))]
        case pos =>
          obtain ⟨rfl, rfl, rfl⟩ := h
          have p0 := hk' k0 (by simp)
          have p1 := hk' k1 (by simp)
          clear hk'
          obtain ⟨y1, y2, y3, y4, y5, y6, y7⟩ := k0
          obtain ⟨z1, z2, z3, z4, z5, z6, z7⟩ := k1
          simp only [Tlv.plainOk] at p0 p1
          obtain ⟨m0, g0, w0⟩ := hq y1 y2 y3 y4 y5 y6 y7 p0.1 p0.2.1
          obtain ⟨m1, g1, w1⟩ := hq z1 z2 z3 z4 z5 z6 z7 p1.1 p1.2.1
          clear hq
          simp only [Tlv.cellsL, Tlv.cells] at hp
          have hN2 : sigOf (.mk 0 16 true x4 x5 x6 [.mk y1 y2 y3 y4 y5 y6 y7, .mk z1 z2 z3 z4 z5 z6 z7]) = (match (decide (y1 = 0 ∧ y2 = 2 ∧ y3 = false) && numOk y5) && (decide (z1 = 0 ∧ z2 = 2 ∧ z3 = false) && numOk z5) with
            | true => (match rdOk (numV y5) && rdOk (numV z5) with
              | true => .inr (limbs (numV y5), limbs (numV z5))
              | false => .inl 3)
            | false => .inl 7) := by
            simp only [sigOf, Tlv.isNum, Tlv.body]
            rfl
          simp only [sigV, hN2] at hd
          clear hN2
          cases t0 : (decide (y1 = 0 ∧ y2 = 2 ∧ y3 = false) && numOk y5)
          · rw [t0] at g0 hd
            simp only [Bool.false_and, noSig, sigD, List.map, List.cons_append, List.nil_append] at hd
            unfold err at hd
            cases t1 : (decide (z1 = 0 ∧ z2 = 2 ∧ z3 = false) && numOk z5) <;> rw [t1] at g1 <;> simp [htt, hlin, hreg, reg9, hcall, hcallP, hlv_200021, hlv_250021, hu, hd, hp, f1, g0, g1, bin_eq_agg, (sig_eq (G := gEc))]
          · rw [t0] at g0 hd
            cases t1 : (decide (z1 = 0 ∧ z2 = 2 ∧ z3 = false) && numOk z5)
            · rw [t1] at g1 hd
              simp only [Bool.and_false, noSig, sigD, List.map, List.cons_append, List.nil_append] at hd
              unfold err at hd
              simp [htt, hlin, hreg, reg9, hcall, hcallP, hlv_200021, hlv_250021, hu, hd, hp, f1, g0, g1, bin_eq_agg, (sig_eq (G := gEc))]
            · rw [t1] at g1 hd
              simp only [Bool.and_self] at hd
              have b0 := numV_bytes p0.2.2
              have b1 := numV_bytes p1.2.2
              have l0 := numV_len y5
              have l1 := numV_len z5
              have r0 := hf m0 (numV y5) b0 (by omega)
              have r1 := hf m1 (numV z5) b1 (by omega)
              change callN _ _ _ _ _ = some ⟨[.d (.nums .u64 false (digs (numV y5)))], []⟩ at r0
              change callN _ _ _ _ _ = some ⟨[.d (.nums .u64 false (digs (numV z5)))], []⟩ at r1
              have e0 := rd_digs p0.2.2
              have e1 := rd_digs p1.2.2
              have s0 := to6_limbs (b := y5) p0.2.2
              have s1 := to6_limbs (b := z5) p1.2.2
              have ld : ∀ u : List Int, (digs u).length ≤ u.length / 4 + 1 := fun u => by
                unfold digs
                rw [trimL_len]
                have := cutL_le (fromL u u.length) (fromL u u.length).length
                rw [fromL_len] at this ⊢
                exact this
              have ld0 := ld (numV y5)
              have ld1 := ld (numV z5)
              have cm0 := hm (digs (numV y5)) (by omega) (by omega)
              have cm1 := hm (digs (numV z5)) (by omega) (by omega)
              have t60 := fun h => h6 (digs (numV y5)) h
              have t61 := fun h => h6 (digs (numV z5)) h
              obtain ⟨a0, a1, a2, a3, a4, a5, he0⟩ := limbs_six (numV y5)
              obtain ⟨c0, c1, c2, c3, c4, c5, he1⟩ := limbs_six (numV z5)
              rw [he0] at s0
              rw [he1] at s1
              have lf : ∀ u : List Int, (u = [] ∧ decide (u = []) = true) ∨ (u ≠ [] ∧ decide (u = []) = false) := fun u => by
                rcases u with _ | ⟨a, t⟩
                · exact .inl ⟨rfl, rfl⟩
                · exact .inr ⟨by simp, by simp⟩
              have lf0 := lf (digs (numV y5))
              have lf1 := lf (digs (numV z5))
              rw [he0, he1] at hd
              generalize numV y5 = u0 at *
              generalize numV z5 = u1 at *
              generalize digs u0 = d0 at *
              generalize digs u1 = d1 at *
              generalize cmpL d0 nL = q0 at *
              generalize cmpL d1 nL = q1 at *
              clear hf hm h6 lf ld he0 he1
              rcases lf0 with ⟨n0, n0'⟩ | ⟨n0, n0'⟩
              · rw [show rdOk u0 = false by rw [e0]; simp [n0]] at hd
                simp only [Bool.false_and, noSig, sigD, List.map, List.cons_append, List.nil_append] at hd
                unfold err at hd
                simp [htt, hlin, hreg, reg9, hcall, hcallP, hlv_200021, hlv_250021, hu, hd, hp, f1, g0, g1, r0, r1, hN, n0', bin_eq_agg, (sig_eq (G := gEc))]
              · rcases lf1 with ⟨n1, n1'⟩ | ⟨n1, n1'⟩
                · rw [show rdOk u1 = false by rw [e1]; simp [n1]] at hd
                  simp only [Bool.and_false, noSig, sigD, List.map, List.cons_append, List.nil_append] at hd
                  unfold err at hd
                  simp [htt, hlin, hreg, reg9, hcall, hcallP, hlv_200021, hlv_250021, hu, hd, hp, f1, g0, g1, r0, r1, hN, n0', n1', bin_eq_agg, (sig_eq (G := gEc))]
                · by_cases v0 : q0 < 0
                  · have v0' : ¬ 0 ≤ q0 := by omega
                    have e0 : rdOk u0 = true := by rw [e0]; simp [n0, v0]
                    by_cases v1 : q1 < 0
                    · have v1' : ¬ 0 ≤ q1 := by omega
                      have e1 : rdOk u1 = true := by rw [e1]; simp [n1, v1]
                      obtain ⟨i0, j0⟩ := s0 e0
                      obtain ⟨i1, j1⟩ := s1 e1
                      have t60 := t60 i0
                      have t61 := t61 i1
                      rw [j0] at t60
                      rw [j1] at t61
                      rw [e0, e1] at hd
                      simp only [Bool.and_self, sigD, List.map, List.cons_append, List.nil_append] at hd
                      simp only [limbD, List.map] at t60 t61
                      simp [htt, hlin, hreg, reg9, hcall, hcallP, hlv_200021, hlv_250021, hu, hd, hp, f1, g0, g1, r0, r1, hN, n0', n1', cm0, cm1, v0', v1', t60, t61, bin_eq_agg, (sig_eq (G := gEc))]
                    · have v1' : 0 ≤ q1 := by omega
                      rw [show rdOk u1 = false by rw [e1]; simp [v1]] at hd
                      simp only [Bool.and_false, noSig, sigD, List.map, List.cons_append, List.nil_append] at hd
                      unfold err at hd
                      simp [htt, hlin, hreg, reg9, hcall, hcallP, hlv_200021, hlv_250021, hu, hd, hp, f1, g0, g1, r0, r1, hN, n0', n1', cm0, cm1, v0', v1', bin_eq_agg, (sig_eq (G := gEc))]
                  · have v0' : 0 ≤ q0 := by omega
                    rw [show rdOk u0 = false by rw [e0]; simp [v0]] at hd
                    simp only [Bool.false_and, noSig, sigD, List.map, List.cons_append, List.nil_append] at hd
                    unfold err at hd
                    simp [htt, hlin, hreg, reg9, hcall, hcallP, hlv_200021, hlv_250021, hu, hd, hp, f1, g0, g1, r0, r1, hN, n0', n1', cm0, cm1, v0', bin_eq_agg, (sig_eq (G := gEc))]
end Go.Proofs.YtjmcgdhekjkjfaaDoor

/- What is laid, as a world tells it. -/
namespace Go.Proofs.YtjmcgdhekjkjfaaDoor
open Go.ChangeShapes Go.WideShapes Go.ChangeAt Go.RowKit Go.VM
set_option linter.unusedVariables false

theorem own : ownKnob Tryd.prog.godebug = none := by kernel_rfl
theorem laidOut : laidOutB Tryd.prog = true := by kernel_rfl
theorem As.et : Tryd.prog.globalNamed "errors.errorType" = some 1 := by kernel_rfl
theorem As.rt : (Tryd.prog.cutTypes.find? (·.1 == "internal/reflectlite.rtype")).map (·.2) = some 189 := by kernel_rfl
theorem As.oneRow : ((List.range 242).filter fun t => Tryd.prog.rowNamed t [101, 114, 114, 111, 114]) = [28] := by kernel_rfl
theorem As.size : Tryd.prog.types.size = 242 := by kernel_rfl

def errLaid {H : Type} : List (String × DataW H) := [("errors.errorType", Rows.laid_errors_errorType)]

theorem handle_of_laid {W : World} (h : laidMetH Tryd.prog errLaid W) : W.cell? ⟨1, 0, none⟩ = some (.iface 189 (.agg #[.pointer (some ⟨8, 28, none⟩)])) := by
  have h' : laidMet Tryd.prog [] W ∧ handlesMet Tryd.prog errLaid W := h
  obtain ⟨name, u, ty, e1, e2, e3, e4, e5⟩ := h'.2 _ (List.mem_singleton.2 rfl)
  have en : name = [101, 114, 114, 111, 114] := (Option.some.inj e1).symm
  subst en
  obtain rfl := Option.some.inj (As.rt.symm.trans e2)
  have hm : ty ∈ (List.range 242).filter fun t => Tryd.prog.rowNamed t [101, 114, 114, 111, 114] := List.mem_filter.2 ⟨List.mem_range.2 (by rw [← As.size]; exact e3), e4⟩
  rw [As.oneRow] at hm
  obtain rfl := List.mem_singleton.1 hm
  have hh : typeHandle Tryd.prog 28 = .pointer (some ⟨8, 28, none⟩) := by kernel_rfl
  rw [hh] at e5
  simpa using World.var?_cell As.et e5 0

/-- A world that meets the condition. -/
noncomputable def laidWorld (os : Os) : World :=
  let w0 := World.holding Tryd.prog os ⟨#[], #[], []⟩
  { w0 with heap := w0.heap.modify 1 fun
      | .cells _ t frozen => .cells #[.iface 189 (.agg #[.pointer (some ⟨8, 28, none⟩)])] t frozen
      | o => o }
theorem laidWorld_met (os : Os) (args : Array Value) : laidMetH Tryd.prog errLaid ((laidWorld os).forCall (fun _ _ => 0) ⟨#[], args, []⟩).memory :=
  laidMetH_of_parts (laidMet_nil _ _) (by kernel_rfl)

theorem rep_err {W : World} (h : W.cell? ⟨1, 0, none⟩ = some (.iface 189 (.agg #[.pointer (some ⟨8, 28, none⟩)]))) :
    ∀ g cs, gErr.glob g = some cs → RepC W noOwn g 0 cs := by
  intro g cs hg
  simp only [gErr] at hg
  split at hg
  · rename_i hb
    have hb := Nat.eq_of_beq_eq_true hb
    subst hb
    cases hg
    intro j x hx
    match j, hx with
    | 0, hx =>
      cases hx
      refine ⟨_, ⟨h, fun ow n h => (by cases h), rfl⟩, .ifc _ _ _ (.agg _ _ rfl (fun j hj => ?_) (fun j x hx => ?_))⟩
      · match j, hj with
        | 0, _ => rfl
      · match j, hx with
        | 0, hx => cases hx; exact .rt _ _
  · cases hg
end Go.Proofs.YtjmcgdhekjkjfaaDoor

/- What is laid for the statements of layer 14, as a world tells it. -/
namespace Go.Proofs.YtjmcgdhekjkjfaaDoor
open Go.ChangeShapes Go.WideShapes Go.ChangeAt Go.RowKit Go.VM
set_option linter.unusedVariables false

theorem gEc_ok : EnvOk Tryd.prog (envG gEc) := envOk gEc (fun f args r h => by
  simp only [gEc, extE] at h
  split at h
  · rename_i hf
    have hf := Nat.eq_of_beq_eq_true hf
    subst hf
    exact is_sound rfl args r h
  · split at h
    · rename_i hf
      have hf := Nat.eq_of_beq_eq_true hf
      subst hf
      exact add_sound args r h
    · split at h
      · rename_i hf
        have hf := Nat.eq_of_beq_eq_true hf
        subst hf
        exact sub_sound args r h
      · cases h)

def ecData {H : Type} : List (String × DataW H) := [("escutcheon/field.prime", Rows.laid_escutcheon_field_prime), ("escutcheon/order.group", Rows.laid_escutcheon_order_group), ("escutcheon/proj.prime", Rows.laid_escutcheon_proj_prime), ("escutcheon/proj.curveB", Rows.laid_escutcheon_proj_curveB), ("escutcheon/proj.one", Rows.laid_escutcheon_proj_one), ("escutcheon/curve.base", Rows.laid_escutcheon_curve_base)]
def ecLaid {H : Type} : List (String × DataW H) := ("errors.errorType", Rows.laid_errors_errorType) :: ecData

theorem ec_parts {W : World} (h : laidMetH Tryd.prog ecLaid W) : laidMet Tryd.prog ecData W ∧ handlesMet Tryd.prog [("errors.errorType", Rows.laid_errors_errorType)] W := h
theorem ec_handle {W : World} (h : handlesMet Tryd.prog [("errors.errorType", Rows.laid_errors_errorType)] W) : laidMetH Tryd.prog errLaid W := by
  have h0 : laidMet Tryd.prog [] W := laidMet_nil _ _
  exact ⟨h0, h⟩

theorem rep_data {W : World} (h : laidMet Tryd.prog ecData W) : ∀ g cs, dataE g = some cs → RepC W noOwn g 0 cs := by
  intro g cs hg
  unfold dataE at hg
  split at hg
  · rename_i hb
    have hb := Nat.eq_of_beq_eq_true hb
    subst hb; cases hg
    exact rep_laid h (n := "escutcheon/order.group") (d := Rows.laid_escutcheon_order_group) (by simp [ecData]) (by kernel_rfl) (t := 146) (by kernel_rfl) (m := 9) (k := 9) (by kernel_rfl) (by kernel_rfl) (by kernel_rfl)
  split at hg
  · rename_i hb
    have hb := Nat.eq_of_beq_eq_true hb
    subst hb; cases hg
    exact rep_laid h (n := "escutcheon/field.prime") (d := Rows.laid_escutcheon_field_prime) (by simp [ecData]) (by kernel_rfl) (t := 146) (by kernel_rfl) (m := 9) (k := 9) (by kernel_rfl) (by kernel_rfl) (by kernel_rfl)
  split at hg
  · rename_i hb
    have hb := Nat.eq_of_beq_eq_true hb
    subst hb; cases hg
    exact rep_laid h (n := "escutcheon/proj.prime") (d := Rows.laid_escutcheon_proj_prime) (by simp [ecData]) (by kernel_rfl) (t := 146) (by kernel_rfl) (m := 9) (k := 9) (by kernel_rfl) (by kernel_rfl) (by kernel_rfl)
  split at hg
  · rename_i hb
    have hb := Nat.eq_of_beq_eq_true hb
    subst hb; cases hg
    exact rep_laid h (n := "escutcheon/proj.curveB") (d := Rows.laid_escutcheon_proj_curveB) (by simp [ecData]) (by kernel_rfl) (t := 64) (by kernel_rfl) (m := 9) (k := 9) (by kernel_rfl) (by kernel_rfl) (by kernel_rfl)
  split at hg
  · rename_i hb
    have hb := Nat.eq_of_beq_eq_true hb
    subst hb; cases hg
    exact rep_laid h (n := "escutcheon/proj.one") (d := Rows.laid_escutcheon_proj_one) (by simp [ecData]) (by kernel_rfl) (t := 64) (by kernel_rfl) (m := 9) (k := 9) (by kernel_rfl) (by kernel_rfl) (by kernel_rfl)
  split at hg
  · rename_i hb
    have hb := Nat.eq_of_beq_eq_true hb
    subst hb; cases hg
    exact rep_laid h (n := "escutcheon/curve.base") (d := Rows.laid_escutcheon_curve_base) (by simp [ecData]) (by kernel_rfl) (t := 90) (by kernel_rfl) (m := 9) (k := 9) (by kernel_rfl) (by kernel_rfl) (by kernel_rfl)
  · cases hg

theorem rep_ec {W : World} (h : laidMetH Tryd.prog ecLaid W) : ∀ g cs, gEc.glob g = some cs → RepC W noOwn g 0 cs := by
  intro g cs hg
  obtain ⟨h1, h2⟩ := ec_parts h
  simp only [gEc] at hg
  split at hg
  · rename_i hb
    have hb' := Nat.eq_of_beq_eq_true hb
    subst hb'
    exact rep_err (handle_of_laid (ec_handle h2)) _ cs hg
  · exact rep_data h1 g cs hg

/-- A world that meets the condition. -/
noncomputable def ecWorld (os : Os) : World :=
  let w0 := (World.holding Tryd.prog os ⟨#[], #[], []⟩).layVars Tryd.prog ecData
  { w0 with heap := w0.heap.modify 1 fun
      | .cells _ t frozen => .cells #[.iface 189 (.agg #[.pointer (some ⟨8, 28, none⟩)])] t frozen
      | o => o }
theorem ecWorld_met (os : Os) (args : Array Value) : laidMetH Tryd.prog ecLaid ((ecWorld os).forCall (fun _ _ => 0) ⟨#[], args, []⟩).memory :=
  laidMetH_of_parts (laidMet_of_run' 12 (by kernel_rfl) (by kernel_rfl)) (by kernel_rfl)
end Go.Proofs.YtjmcgdhekjkjfaaDoor
