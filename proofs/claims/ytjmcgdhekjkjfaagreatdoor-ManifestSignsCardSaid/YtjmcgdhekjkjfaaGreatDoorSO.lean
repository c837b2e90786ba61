/- ref17.Sealed (direct). -/
import Derived.Test.YtjmcgdhekjkjfaaGreatDoorSN
import Derived.Test.YtjmcgdhekjkjfaaGreatDoorSC
import Derived.Test.YtjmcgdhekjkjfaaGreatDoorVMS
import Derived.Test.YtjmcgdhekjkjfaaGreatDoorRows
import Derived.WalkKit
import Derived.ProofKit
import Derived.OpenShut
import Derived.ShutString
import Derived.ChangeOld
import Derived.ChangeSame
import Derived.ChangeVars
import Derived.JoinedOf
import Derived.Below
import Derived.SizedLaws
import Derived.LaidLaws
import Derived.LaidHandle
import Derived.Stop.Joined
import Derived.Test.YtjmcgdhekjkjfaaGreatDoorVMU
import Derived.Lay
set_option linter.unusedSimpArgs false
set_option linter.unusedVariables false
namespace Go.Proofs.YtjmcgdhekjkjfaaGreatDoor
open Go Go.VM
variable {G : GE}
set_option maxRecDepth 100000
set_option maxHeartbeats 8000000
theorem t_Sealed (F : Nat) (hF : 1100000 < F) (hF2 : F ≤ 140737488355328) (n : Nat) (b : List Int) (nl : Bool) (hnl : nl = true → b = []) (hb : ∀ c ∈ b, 0 ≤ c ∧ c < 256)
    (a0 a1 a2 a3 a4 a5 b0 b1 b2 b3 b4 b5 : Int) (ha : In64 [a0, a1, a2, a3, a4, a5]) (hc : In64 [b0, b1, b2, b3, b4, b5]) :
    ∃ o, (o = [] ∨ o = [0]) ∧ callN (envG G) F (n + 40) 11 [.d (.nums .u8 nl b), .d (sigD [a0, a1, a2, a3, a4, a5] [b0, b1, b2, b3, b4, b5]), .d (.bool true)] =
      some ⟨[.d (bytesV (sealC (parseB b) [a0, a1, a2, a3, a4, a5] [b0, b1, b2, b3, b4, b5]).2.1 (sealC (parseB b) [a0, a1, a2, a3, a4, a5] [b0, b1, b2, b3, b4, b5]).1), .d (.int .i64 (sealC (parseB b) [a0, a1, a2, a3, a4, a5] [b0, b1, b2, b3, b4, b5]).2.1), .d (.int .i64 (sealC (parseB b) [a0, a1, a2, a3, a4, a5] [b0, b1, b2, b3, b4, b5]).2.2)], o⟩ := by
  have hp : callN (envG G) F (n + 39) _ _ = _ := t_rParse (G := G) F (by omega) (n + 19) b nl hnl hb
  have hE : callN (envG G) F (n + 39) _ _ = _ := t_r14Encode (G := G) F (by omega) hF2 (n + 9) a0 a1 a2 a3 a4 a5 b0 b1 b2 b3 b4 b5 ha hc
  have hL : ∀ nl l, callN (envG G) F (n + 39) _ _ = _ := fun nl l => t_rList (G := G) F (n + 38) nl l
  have hW : ∀ T : Tlv, T.depth ≤ 17 → T.weight ≤ 1050000 → callN (envG G) F (n + 39) _ _ = _ := fun T h1 h2 => t_rWrite (G := G) F hF2 1050000 (by omega) 17 (n + 21) T (by omega) h1 (weight_width (W := 1050000) T h2) (by have := enc_le T; omega)
  have hsl := sig_len ha hc
  obtain ⟨t1, t2, t3, t4⟩ := sigT_ok ha hc
  have heb := enc_bytes _ t1 t4 (by omega)
  have hT : ∀ x, parseB b = .ok x → (sealT x (sigT [a0, a1, a2, a3, a4, a5] [b0, b1, b2, b3, b4, b5]).enc).depth ≤ 17 ∧ (sealT x (sigT [a0, a1, a2, a3, a4, a5] [b0, b1, b2, b3, b4, b5]).enc).weight ≤ 1050000 := fun x hx => by
    obtain ⟨h1, h2, h3, h4, h5, h6⟩ := parseB_ok hb hx
    have := sealT_ok h3 h4 (by omega) h5 heb (by omega)
    exact ⟨this.2.1, this.2.2.1⟩
  have hbad : ∀ c p, parseB b = .bad c p → _ := fun c p h => parseB_bad2 h
  have e1 : (sigT [a0, a1, a2, a3, a4, a5] [b0, b1, b2, b3, b4, b5]).enc.length ≤ 140737488355328 := by omega
  have e2 : (sigT [a0, a1, a2, a3, a4, a5] [b0, b1, b2, b3, b4, b5]).enc.length + 1 ≤ 140737488355328 := by omega
  have e3 : 1 + (sigT [a0, a1, a2, a3, a4, a5] [b0, b1, b2, b3, b4, b5]).enc.length ≤ 140737488355328 := by omega
  clear ha hc t1 t2 t3 t4 heb hsl
  generalize parseB b = r at *
  cases r with
  | bad c p =>
    clear hT hW hE hL
    have hc0 : c ≠ 0 := by have := hbad c p rfl; omega
    simp only [rparseV, zeroT, Tlv.cells, Tlv.cellsL] at hp
    simp only [sealC, bytesV, if_neg hc0, sigD, List.map, List.cons_append, List.nil_append]
    refine ⟨[0], .inr rfl, ?_⟩
    rw [callN_run (fn := Tryz.f11) rfl rfl rfl (by simp [Tryz.ntmps11])]
    generalize hC : (envG G).ctx 11 (callN (envG G) F (n+39)) (callP (envG G) F (n+39)) = C
    have htt : C.tt = (envG G).tt := by rw [← hC]; rfl
    have hlin : C.lin = [53, 52, 22, 21, 16, 15, 35, 11, 10, 55, 54, 41, 14, 26, 25, 8, 7, 6, 38, 44, 43] := by rw [← hC]; rfl
    have hreg : C.reg = reg11 := by rw [← hC]; rfl
    have hcall : C.call = callN (envG G) F (n+39) := by rw [← hC]; rfl
    have hcallP : C.callP = callP (envG G) F (n+39) := by rw [← hC]; rfl
    clear hC
    simp [htt, hlin, hreg, reg11, hcall, hcallP, hp, hc0]
  | ok x =>
    obtain ⟨hT1, hT2⟩ := hT x rfl
    have hW := hW _ hT1 hT2
    clear hT hT1 hT2 hbad
    simp only [sealC]
    generalize (sigT [a0, a1, a2, a3, a4, a5] [b0, b1, b2, b3, b4, b5]).enc = en at *
    generalize isScalar [a0, a1, a2, a3, a4, a5] = sa at *
    generalize isScalar [b0, b1, b2, b3, b4, b5] = sb at *
    generalize hbw : badW (sealT x en) = bw at *
    generalize (sealT x en).enc = T at *
    simp only [sealT, bitsT, Tlv.cells, Tlv.cellsL] at hW
    obtain ⟨x1, x2, x3, x4, x5, x6, x7⟩ := x
    simp only [rparseV, Tlv.cells, sigD, List.map, List.cons_append, List.nil_append] at *
    by_cases hsc : (sa && sb) = true
    · rw [hsc]
      simp only
      obtain ⟨rfl, rfl⟩ : sa = true ∧ sb = true := by simpa using hsc
      simp only [and_self, if_true] at hE
      by_cases h0 : bw = 0
      · subst h0
        simp only [bytesV, if_true] at hW ⊢
        refine ⟨[], .inl rfl, ?_⟩
        rw [callN_run (fn := Tryz.f11) rfl rfl rfl (by simp [Tryz.ntmps11])]
        generalize hC : (envG G).ctx 11 (callN (envG G) F (n+39)) (callP (envG G) F (n+39)) = C
        have htt : C.tt = (envG G).tt := by rw [← hC]; rfl
        have hlin : C.lin = [53, 52, 22, 21, 16, 15, 35, 11, 10, 55, 54, 41, 14, 26, 25, 8, 7, 6, 38, 44, 43] := by rw [← hC]; rfl
        have hreg : C.reg = reg11 := by rw [← hC]; rfl
        have hcall : C.call = callN (envG G) F (n+39) := by rw [← hC]; rfl
        have hcallP : C.callP = callP (envG G) F (n+39) := by rw [← hC]; rfl
        clear hC
        simp [htt, hlin, hreg, reg11, hcall, hcallP, hp, hE, hL, hW, e1, e2, e3]
      · simp only [bytesV, if_neg h0] at hW ⊢
        refine ⟨[], .inl rfl, ?_⟩
        rw [callN_run (fn := Tryz.f11) rfl rfl rfl (by simp [Tryz.ntmps11])]
        generalize hC : (envG G).ctx 11 (callN (envG G) F (n+39)) (callP (envG G) F (n+39)) = C
        have htt : C.tt = (envG G).tt := by rw [← hC]; rfl
        have hlin : C.lin = [53, 52, 22, 21, 16, 15, 35, 11, 10, 55, 54, 41, 14, 26, 25, 8, 7, 6, 38, 44, 43] := by rw [← hC]; rfl
        have hreg : C.reg = reg11 := by rw [← hC]; rfl
        have hcall : C.call = callN (envG G) F (n+39) := by rw [← hC]; rfl
        have hcallP : C.callP = callP (envG G) F (n+39) := by rw [← hC]; rfl
        clear hC
        simp [htt, hlin, hreg, reg11, hcall, hcallP, hp, hE, hL, hW, e1, e2, e3]
    · have hsc : (sa && sb) = false := by simpa using hsc
      rw [hsc]
      have h2 : ¬ (sa = true ∧ sb = true) := by
        rintro ⟨rfl, rfl⟩
        cases hsc
      rw [if_neg h2] at hE
      simp only [bytesV]
      rw [if_neg (by omega)]
      refine ⟨[0], .inr rfl, ?_⟩
      rw [callN_run (fn := Tryz.f11) rfl rfl rfl (by simp [Tryz.ntmps11])]
      generalize hC : (envG G).ctx 11 (callN (envG G) F (n+39)) (callP (envG G) F (n+39)) = C
      have htt : C.tt = (envG G).tt := by rw [← hC]; rfl
      have hlin : C.lin = [53, 52, 22, 21, 16, 15, 35, 11, 10, 55, 54, 41, 14, 26, 25, 8, 7, 6, 38, 44, 43] := by rw [← hC]; rfl
      have hreg : C.reg = reg11 := by rw [← hC]; rfl
      have hcall : C.call = callN (envG G) F (n+39) := by rw [← hC]; rfl
      have hcallP : C.callP = callP (envG G) F (n+39) := by rw [← hC]; rfl
      clear hC
      simp [htt, hlin, hreg, reg11, hcall, hcallP, hp, hE]
end Go.Proofs.YtjmcgdhekjkjfaaGreatDoor
set_option linter.unusedSimpArgs false
set_option linter.unusedVariables false
namespace Go.Proofs.YtjmcgdhekjkjfaaGreatDoor
open Go Go.VM
set_option maxRecDepth 100000
set_option maxHeartbeats 8000000
def extS (f : FuncId) (args : List V) : Option Ret := match Nat.beq f 18 with
  | true => isX args
  | false => match Nat.beq f 98 with
    | true => subX args
    | false => none
def dataS (g : Nat) : Option (List D) := match Nat.beq g 1 with
  | true => some groupC
  | false => none
noncomputable def gSg : GE := { glob := fun g => match Nat.beq g 0 with | true => some errT | false => dataS g, ext := extS }
theorem s_bits : SubB gSg := fun _ => rfl
theorem s_is : IsG gSg := fun _ => rfl
theorem s_group : GroupG gSg := rfl
theorem s_sub : SubK gSg := fun F n a0 a1 a2 a3 a4 a5 b0 b1 b2 b3 b4 b5 hF => t_lSub (G := gSg) s_bits (fun _ => rfl) F n hF a0 a1 a2 a3 a4 a5 b0 b1 b2 b3 b4 b5
theorem up20_0 : callN (envG gSg) 200 60 5 [] = some ⟨[.d (.bool true)], []⟩ := by kernel_rfl
theorem up20 (F n : Nat) (hf : 200 ≤ F) (hn : 60 ≤ n) : callN (envG gSg) F n 5 [] = some ⟨[.d (.bool true)], []⟩ := callN_mono hf hn up20_0
end Go.Proofs.YtjmcgdhekjkjfaaGreatDoor
set_option linter.unusedSimpArgs false
set_option linter.unusedVariables false
namespace Go.Proofs.YtjmcgdhekjkjfaaGreatDoor
open Go Go.VM
set_option maxRecDepth 100000
set_option maxHeartbeats 8000000
theorem sealC_told (F n : Nat) (hF : 22 < F) {b : List Int} (hb : ∀ c ∈ b, 0 ≤ c ∧ c < 256) (r s : List Int) (hr : In64 r) (hs : In64 s) :
    callN (envG gSg) F (n+2) 8 [.d (whyV (sealC (parseB b) r s).2.1 (sealC (parseB b) r s).2.2), .d (.int .i64 (sealC (parseB b) r s).2.1), .d (.int .i64 (sealC (parseB b) r s).2.2)] = some ⟨[.d (.bool true)], []⟩ := by
  have ht := fun c p h => t_told20 (G := gSg) s_is F n hF c p h
  have ht1 := fun c h => t_told20c (G := gSg) F n hF c h
  have ht0 := t_told20_nil (G := gSg) F n
  obtain ⟨t1, t2, t3, t4⟩ := sigT_ok hr hs
  have heb := enc_bytes _ t1 t4 (by have := enc_le (sigT r s); omega)
  have hsl := sig_len hr hs
  cases hp : parseB b with
  | bad c p =>
    have h := parseB_bad2 hp
    show callN (envG gSg) F (n+2) 8 [.d (whyV c p), .d (.int .i64 c), .d (.int .i64 p)] = _
    unfold whyV
    rw [if_neg (by omega)]
    exact ht c p h
  | ok x =>
    obtain ⟨h1, h2, h3, h4, h5, h6⟩ := parseB_ok hb hp
    have hT := sealT_ok (b := (sigT r s).enc) h3 h4 (by omega) h5 heb (by omega)
    simp only [sealC]
    cases isScalar r && isScalar s
    · simp only [whyV, atD]
      exact ht1 3 (by omega)
    · simp only
      rcases badW_seal hT.1 with h | h | h
      · rw [h]; exact ht0
      · rw [h]; exact ht1 9 (by omega)
      · rw [h]; exact ht1 2 (by omega)
theorem sealC_back {b : List Int} (hb : ∀ c ∈ b, 0 ≤ c ∧ c < 256) (r s : List Int) (hr : In64 r) (hs : In64 s) (lr : r.length = 6) (ls : s.length = 6) (h : (sealC (parseB b) r s).2.1 = 0) :
    (∀ c ∈ (sealC (parseB b) r s).1, 0 ≤ c ∧ c < 256) ∧ (sealC (parseB b) r s).1.length ≤ 1048576 ∧ signedV (parseB (sealC (parseB b) r s).1) = [.d (.nums .u8 false b), .d (sigD r s), .d .nilifc] ∧ (sealC (parseB b) r s).2.2 = -1 ∧ b.length ≤ 1048576 := by
  obtain ⟨t1, t2, t3, t4⟩ := sigT_ok hr hs
  have heb := enc_bytes _ t1 t4 (by have := enc_le (sigT r s); omega)
  have hsl := sig_len hr hs
  cases hp : parseB b with
  | bad c p =>
    rw [hp] at h
    have := parseB_bad2 hp
    simp only [sealC] at h
    omega
  | ok x =>
    rw [hp] at h
    obtain ⟨h1, h2, h3, h4, h5, h6⟩ := parseB_ok hb hp
    have hT := sealT_ok (b := (sigT r s).enc) h3 h4 (by omega) h5 heb (by omega)
    simp only [sealC] at h ⊢
    cases hsc : isScalar r && isScalar s with
    | false => rw [hsc] at h; simp only at h; omega
    | true =>
      rw [hsc] at h
      simp only at h ⊢
      rw [if_pos h]
      have hq := h
      unfold badW at hq
      rw [if_neg (by simp [hT.1])] at hq
      split at hq
      · omega
      · split at hq
        · omega
        · rename_i d1 d2
          simp only [Bool.and_eq_true] at hsc
          refine ⟨enc_bytes _ hT.1 hT.2.2.2 (by omega), by omega, ?_, by trivial, h1⟩
          rw [parseB_enc hT.1 (by omega) (by omega)]
          simp only [signedV]
          rw [sealT_parts hr hs lr ls hsc.1 hsc.2]
          simp only
          rw [enc_norm, h2]
theorem ss_law (F : Nat) (hF : 1100000 < F) (hF2 : F ≤ 140737488355328) (n : Nat) (b : List Int) (nl : Bool) (hnl : nl = true → b = []) (hb : ∀ c ∈ b, 0 ≤ c ∧ c < 256)
    (a0 a1 a2 a3 a4 a5 b0 b1 b2 b3 b4 b5 : Int) (ha : In64 [a0, a1, a2, a3, a4, a5]) (hc : In64 [b0, b1, b2, b3, b4, b5]) :
    callN (envG gSg) F (n + 100) 4 [.d (.nums .u8 nl b), .d (sigD [a0, a1, a2, a3, a4, a5] [b0, b1, b2, b3, b4, b5])] = some ⟨[.d (.bool true)], []⟩ := by
  have hu := up20 F (n + 99) (by omega) (by omega)
  have hs : callN (envG gSg) F (n + 99) _ _ = _ := t_Sign (G := gSg) s_sub s_group F hF hF2 (n + 18) b nl hnl hb a0 a1 a2 a3 a4 a5 b0 b1 b2 b3 b4 b5 ha hc
  have hz : ∃ o, (o = [] ∨ o = [0]) ∧ callN (envG gSg) F (n + 99) _ _ = _ := t_Sealed (G := gSg) F hF hF2 (n + 59) b nl hnl hb a0 a1 a2 a3 a4 a5 b0 b1 b2 b3 b4 b5 ha hc
  obtain ⟨o, ho, hz⟩ := hz
  have ht : callN (envG gSg) F (n + 99) _ _ = _ := sealC_told F (n + 97) (by omega) hb _ _ ha hc
  have hk := sealC_back hb _ _ ha hc rfl rfl
  have hg : ∀ (y : List Int) (h : ∀ c ∈ y, 0 ≤ c ∧ c < 256), callN (envG gSg) F (n + 99) _ _ = _ := fun y h => t_Signed (G := gSg) s_sub s_group F (by omega) hF2 (n + 18) y false (by simp) h
  have hw : ∀ c p, c ≠ 0 → ∃ t x, whyV c p = .ifc t x := fun c p h => by
    unfold whyV atD
    rw [if_neg h]
    split
    · exact ⟨_, _, rfl⟩
    · exact ⟨_, _, rfl⟩
  generalize sealC (parseB b) [a0, a1, a2, a3, a4, a5] [b0, b1, b2, b3, b4, b5] = q at *
  obtain ⟨y, c, p⟩ := q
  simp only at hs hz ht hk
  clear ha hc hb
  have c1 : ((50000 : Int) < b.length ∧ (b.length : Int) ≤ 1048576) ∨ ((50000 : Int) < b.length ∧ ¬ (b.length : Int) ≤ 1048576) ∨ ¬ (50000 : Int) < b.length := by
    by_cases h : (50000 : Int) < b.length
    · by_cases h2 : (b.length : Int) ≤ 1048576
      · exact .inl ⟨h, h2⟩
      · exact .inr (.inl ⟨h, h2⟩)
    · exact .inr (.inr h)
  by_cases h0 : c = 0
  · subst h0
    obtain ⟨k1, k2, k3, rfl, k4⟩ := hk rfl
    have hg := hg y k1
    rw [k3] at hg
    clear hk k1 k3 hw
    have e1 : y.length ≤ 140737488355328 := by omega
    have e2 : b.length ≤ 140737488355328 := by omega
    clear k2
    simp only [bytesV, whyV, if_true, sigD, List.map, List.cons_append, List.nil_append] at hs hz ht hg ⊢
    rcases c1 with ⟨f1, f2⟩ | ⟨f1, f2⟩ | f1
    · skip
      rw [callN_run (fn := Tryz.f4) rfl rfl rfl (by simp [Tryz.ntmps4])]
      generalize hC : (envG gSg).ctx 4 (callN (envG gSg) F (n+99)) (callP (envG gSg) F (n+99)) = C
      have htt : C.tt = (envG gSg).tt := by rw [← hC]; rfl
      have hlin : C.lin = [] := by rw [← hC]; rfl
      have hreg : C.reg = reg4 := by rw [← hC]; rfl
      have hcall : C.call = callN (envG gSg) F (n+99) := by rw [← hC]; rfl
      have hcallP : C.callP = callP (envG gSg) F (n+99) := by rw [← hC]; rfl
      clear hC
      simp [htt, hlin, hreg, reg4, hcall, hcallP, hu, f1, f2]
    · exact absurd (by omega) f2
    · rcases ho with rfl | rfl
      · skip
        rw [callN_run (fn := Tryz.f4) rfl rfl rfl (by simp [Tryz.ntmps4])]
        generalize hC : (envG gSg).ctx 4 (callN (envG gSg) F (n+99)) (callP (envG gSg) F (n+99)) = C
        have htt : C.tt = (envG gSg).tt := by rw [← hC]; rfl
        have hlin : C.lin = [] := by rw [← hC]; rfl
        have hreg : C.reg = reg4 := by rw [← hC]; rfl
        have hcall : C.call = callN (envG gSg) F (n+99) := by rw [← hC]; rfl
        have hcallP : C.callP = callP (envG gSg) F (n+99) := by rw [← hC]; rfl
        clear hC
        simp [htt, hlin, hreg, reg4, hcall, hcallP, hu, f1, hs, hz, ht, hg, e1, e2, bin_eq_agg, (sig_eq (G := gSg))]
      · skip
        rw [callN_run (fn := Tryz.f4) rfl rfl rfl (by simp [Tryz.ntmps4])]
        generalize hC : (envG gSg).ctx 4 (callN (envG gSg) F (n+99)) (callP (envG gSg) F (n+99)) = C
        have htt : C.tt = (envG gSg).tt := by rw [← hC]; rfl
        have hlin : C.lin = [] := by rw [← hC]; rfl
        have hreg : C.reg = reg4 := by rw [← hC]; rfl
        have hcall : C.call = callN (envG gSg) F (n+99) := by rw [← hC]; rfl
        have hcallP : C.callP = callP (envG gSg) F (n+99) := by rw [← hC]; rfl
        clear hC
        simp [htt, hlin, hreg, reg4, hcall, hcallP, hu, f1, hs, hz, ht, hg, e1, e2, bin_eq_agg, (sig_eq (G := gSg))]
  · obtain ⟨t, x, hw⟩ := hw c p h0
    rw [hw] at hs ht
    clear hk hg hw
    simp only [bytesV, if_neg h0, sigD, List.map, List.cons_append, List.nil_append] at hs hz ht ⊢
    rcases c1 with ⟨f1, f2⟩ | ⟨f1, f2⟩ | f1
    · skip
      rw [callN_run (fn := Tryz.f4) rfl rfl rfl (by simp [Tryz.ntmps4])]
      generalize hC : (envG gSg).ctx 4 (callN (envG gSg) F (n+99)) (callP (envG gSg) F (n+99)) = C
      have htt : C.tt = (envG gSg).tt := by rw [← hC]; rfl
      have hlin : C.lin = [] := by rw [← hC]; rfl
      have hreg : C.reg = reg4 := by rw [← hC]; rfl
      have hcall : C.call = callN (envG gSg) F (n+99) := by rw [← hC]; rfl
      have hcallP : C.callP = callP (envG gSg) F (n+99) := by rw [← hC]; rfl
      clear hC
      simp [htt, hlin, hreg, reg4, hcall, hcallP, hu, f1, f2]
    · rcases ho with rfl | rfl
      · skip
        rw [callN_run (fn := Tryz.f4) rfl rfl rfl (by simp [Tryz.ntmps4])]
        generalize hC : (envG gSg).ctx 4 (callN (envG gSg) F (n+99)) (callP (envG gSg) F (n+99)) = C
        have htt : C.tt = (envG gSg).tt := by rw [← hC]; rfl
        have hlin : C.lin = [] := by rw [← hC]; rfl
        have hreg : C.reg = reg4 := by rw [← hC]; rfl
        have hcall : C.call = callN (envG gSg) F (n+99) := by rw [← hC]; rfl
        have hcallP : C.callP = callP (envG gSg) F (n+99) := by rw [← hC]; rfl
        clear hC
        simp [htt, hlin, hreg, reg4, hcall, hcallP, hu, f1, f2, hs, hz, ht, h0]
      · skip
        rw [callN_run (fn := Tryz.f4) rfl rfl rfl (by simp [Tryz.ntmps4])]
        generalize hC : (envG gSg).ctx 4 (callN (envG gSg) F (n+99)) (callP (envG gSg) F (n+99)) = C
        have htt : C.tt = (envG gSg).tt := by rw [← hC]; rfl
        have hlin : C.lin = [] := by rw [← hC]; rfl
        have hreg : C.reg = reg4 := by rw [← hC]; rfl
        have hcall : C.call = callN (envG gSg) F (n+99) := by rw [← hC]; rfl
        have hcallP : C.callP = callP (envG gSg) F (n+99) := by rw [← hC]; rfl
        clear hC
        simp [htt, hlin, hreg, reg4, hcall, hcallP, hu, f1, f2, hs, hz, ht, h0]
    · rcases ho with rfl | rfl
      · skip
        rw [callN_run (fn := Tryz.f4) rfl rfl rfl (by simp [Tryz.ntmps4])]
        generalize hC : (envG gSg).ctx 4 (callN (envG gSg) F (n+99)) (callP (envG gSg) F (n+99)) = C
        have htt : C.tt = (envG gSg).tt := by rw [← hC]; rfl
        have hlin : C.lin = [] := by rw [← hC]; rfl
        have hreg : C.reg = reg4 := by rw [← hC]; rfl
        have hcall : C.call = callN (envG gSg) F (n+99) := by rw [← hC]; rfl
        have hcallP : C.callP = callP (envG gSg) F (n+99) := by rw [← hC]; rfl
        clear hC
        simp [htt, hlin, hreg, reg4, hcall, hcallP, hu, f1, hs, hz, ht, h0]
      · skip
        rw [callN_run (fn := Tryz.f4) rfl rfl rfl (by simp [Tryz.ntmps4])]
        generalize hC : (envG gSg).ctx 4 (callN (envG gSg) F (n+99)) (callP (envG gSg) F (n+99)) = C
        have htt : C.tt = (envG gSg).tt := by rw [← hC]; rfl
        have hlin : C.lin = [] := by rw [← hC]; rfl
        have hreg : C.reg = reg4 := by rw [← hC]; rfl
        have hcall : C.call = callN (envG gSg) F (n+99) := by rw [← hC]; rfl
        have hcallP : C.callP = callP (envG gSg) F (n+99) := by rw [← hC]; rfl
        clear hC
        simp [htt, hlin, hreg, reg4, hcall, hcallP, hu, f1, hs, hz, ht, h0]
end Go.Proofs.YtjmcgdhekjkjfaaGreatDoor
namespace Go.Proofs.YtjmcgdhekjkjfaaGreatDoor
open Go.ChangeShapes Go.WideShapes Go.ChangeAt Go.RowKit Go.VM
set_option linter.unusedVariables false
theorem own : ownKnob Tryz.prog.godebug = none := by kernel_rfl
theorem laidOut : laidOutB Tryz.prog = true := by kernel_rfl
theorem As.et : Tryz.prog.globalNamed "errors.errorType" = some 0 := by kernel_rfl
theorem As.rt : (Tryz.prog.cutTypes.find? (·.1 == "internal/reflectlite.rtype")).map (·.2) = some 157 := by kernel_rfl
theorem As.oneRow : ((List.range 213).filter fun t => Tryz.prog.rowNamed t [101, 114, 114, 111, 114]) = [30] := by kernel_rfl
theorem As.size : Tryz.prog.types.size = 213 := by kernel_rfl
def errLaid {H : Type} : List (String × DataW H) := [("errors.errorType", Rows.laid_errors_errorType)]
theorem handle_of_laid {W : World} (h : laidMetH Tryz.prog errLaid W) : W.cell? ⟨0, 0, none⟩ = some (.iface 157 (.agg #[.pointer (some ⟨2, 30, none⟩)])) := by
  have h' : laidMet Tryz.prog [] W ∧ handlesMet Tryz.prog errLaid W := h
  obtain ⟨name, u, ty, e1, e2, e3, e4, e5⟩ := h'.2 _ (List.mem_singleton.2 rfl)
  have en : name = [101, 114, 114, 111, 114] := (Option.some.inj e1).symm
  subst en
  obtain rfl := Option.some.inj (As.rt.symm.trans e2)
  have hm : ty ∈ (List.range 213).filter fun t => Tryz.prog.rowNamed t [101, 114, 114, 111, 114] := List.mem_filter.2 ⟨List.mem_range.2 (by rw [← As.size]; exact e3), e4⟩
  rw [As.oneRow] at hm
  obtain rfl := List.mem_singleton.1 hm
  have hh : typeHandle Tryz.prog 30 = .pointer (some ⟨2, 30, none⟩) := by kernel_rfl
  rw [hh] at e5
  simpa using World.var?_cell As.et e5 0
theorem rep_errT {W : World} (h : W.cell? ⟨0, 0, none⟩ = some (.iface 157 (.agg #[.pointer (some ⟨2, 30, none⟩)]))) :
    RepC W noOwn 0 0 errT := by
  intro j x hx
  match j, hx with
  | 0, hx =>
    cases hx
    refine ⟨_, ⟨h, fun ow n h => (by cases h), rfl⟩, .ifc _ _ _ (.agg _ _ rfl (fun j hj => ?_) (fun j x hx => ?_))⟩
    · match j, hj with
      | 0, _ => rfl
    · match j, hx with
      | 0, hx => cases hx; exact .rt _ _
theorem gSg_ok : EnvOk Tryz.prog (envG gSg) := envOk gSg (fun f args r h => by
  simp only [gSg, extS] at h
  split at h
  · rename_i hf
    have hf := Nat.eq_of_beq_eq_true hf
    subst hf
    exact is_sound rfl args r h
  · split at h
    · rename_i hf
      have hf := Nat.eq_of_beq_eq_true hf
      subst hf
      exact sub_sound args r h
    · cases h)
def sgData {H : Type} : List (String × DataW H) := [("escutcheon/order.group", Rows.laid_escutcheon_order_group)]
def sgLaid {H : Type} : List (String × DataW H) := ("errors.errorType", Rows.laid_errors_errorType) :: sgData
theorem sg_parts {W : World} (h : laidMetH Tryz.prog sgLaid W) : laidMet Tryz.prog sgData W ∧ handlesMet Tryz.prog [("errors.errorType", Rows.laid_errors_errorType)] W := h
theorem sg_handle {W : World} (h : handlesMet Tryz.prog [("errors.errorType", Rows.laid_errors_errorType)] W) : laidMetH Tryz.prog errLaid W := by
  have h0 : laidMet Tryz.prog [] W := laidMet_nil _ _
  exact ⟨h0, h⟩
theorem rep_sg {W : World} (h : laidMetH Tryz.prog sgLaid W) : ∀ g cs, gSg.glob g = some cs → RepC W noOwn g 0 cs := by
  intro g cs hg
  obtain ⟨h1, h2⟩ := sg_parts h
  simp only [gSg, dataS] at hg
  split at hg
  · rename_i hb
    have hb' := Nat.eq_of_beq_eq_true hb
    subst hb'
    cases hg
    exact rep_errT (handle_of_laid (sg_handle h2))
  · split at hg
    · rename_i hb
      have hb := Nat.eq_of_beq_eq_true hb
      subst hb; cases hg
      exact rep_laid h1 (n := "escutcheon/order.group") (d := Rows.laid_escutcheon_order_group) (by simp [sgData]) (by kernel_rfl) (t := 179) (by kernel_rfl) (m := 9) (k := 9) (by kernel_rfl) (by kernel_rfl) (by kernel_rfl)
    · cases hg
noncomputable def sgWorld (os : Os) : World :=
  let w0 := (World.holding Tryz.prog os ⟨#[], #[], []⟩).layVars Tryz.prog sgData
  { w0 with heap := w0.heap.modify 0 fun
      | .cells _ t frozen => .cells #[.iface 157 (.agg #[.pointer (some ⟨2, 30, none⟩)])] t frozen
      | o => o }
theorem sgWorld_met (os : Os) (args : Array Value) : laidMetH Tryz.prog sgLaid ((sgWorld os).forCall (fun _ _ => 0) ⟨#[], args, []⟩).memory :=
  laidMetH_of_parts (laidMet_of_run' 12 (by kernel_rfl) (by kernel_rfl)) (by kernel_rfl)
end Go.Proofs.YtjmcgdhekjkjfaaGreatDoor
