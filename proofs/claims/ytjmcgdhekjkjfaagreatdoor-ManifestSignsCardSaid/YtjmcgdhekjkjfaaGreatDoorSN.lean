/- The reference's signature: ref14.Decode. -/
import Derived.Test.YtjmcgdhekjkjfaaGreatDoorSM
import Derived.Test.YtjmcgdhekjkjfaaGreatDoorSC
import Derived.Test.YtjmcgdhekjkjfaaGreatDoorSG
set_option linter.unusedSimpArgs false
set_option linter.unusedVariables false
namespace Go.Proofs.YtjmcgdhekjkjfaaGreatDoor
open Go Go.VM
variable {G : GE}
set_option maxRecDepth 100000
set_option maxHeartbeats 4000000
theorem parseB_bad2 {b : List Int} {c p : Int} (h : parseB b = .bad c p) : (p = -1 ∧ c = 2) ∨ 0 ≤ p ∧ 1 ≤ c ∧ c ≤ 9 := by
  unfold parseB at h
  split at h
  · injection h with h1 h2; exact .inl ⟨h2.symm, h1.symm⟩
  · split at h
    · rename_i h1; injection h with h2 h3; subst h2; subst h3; exact .inr (elemB_place h1)
    · split at h
      · injection h with h2 h3; omega
      · cases h
end Go.Proofs.YtjmcgdhekjkjfaaGreatDoor
set_option linter.unusedSimpArgs false
set_option linter.unusedVariables false
namespace Go.Proofs.YtjmcgdhekjkjfaaGreatDoor
open Go Go.VM
variable {G : GE}
set_option maxRecDepth 100000
set_option maxHeartbeats 8000000
theorem kids_ok {b : List Int} (hb : ∀ c ∈ b, 0 ≤ c ∧ c < 256) {x : Tlv} (hx : parseB b = .ok x) :
    ∀ y ∈ x.kids, y.plainOk ∧ y.fine = true ∧ y.depth ≤ 16 ∧ y.weight ≤ 1048576 ∧ y.enc.length ≤ 1048576 := by
  intro y hy
  obtain ⟨h1, h2, h3, h4, h5, h6⟩ := parseB_ok hb hx
  have h7 := parseB_nil hx
  obtain ⟨x1, x2, x3, x4, x5, x6, x7⟩ := x
  simp only [Tlv.kids] at hy
  simp only [Tlv.weight] at h6
  simp only [Tlv.fine, Bool.and_eq_true] at h3
  simp only [Tlv.depth] at h4
  have q1 := weight_mem hy
  have q2 := depthL_mem hy
  have q3 := encL_mem hy
  have q4 := congrArg List.length h2
  simp only [Tlv.enc, List.length_append] at q4
  exact ⟨plainOk_of (W := 1048576) (nilOk_mem h7.2.2 hy) (bytesOk_mem h5.2 hy) (by omega) (by omega), fineL_mem h3.2 hy, by omega, by omega, by omega⟩
def signedV : Res Tlv → List V
  | .bad c p => [.d (.nums .u8 true []), .d noSig, .d (atD c p)]
  | .ok x => match sigParts x with
    | some (k0, r, s) => [.d (.nums .u8 false k0.enc), .d (sigD r s), .d .nilifc]
    | none => [.d (.nums .u8 true []), .d noSig, .d (err 7)]
theorem sigParts_six {x k0 : Tlv} {r s : List Int} (h : sigParts x = some (k0, r, s)) : r.length = 6 ∧ s.length = 6 := by
  unfold sigParts at h
  split at h
  · split at h
    · split at h
      · rename_i b _
        split at h
        · rename_i r' s' hb
          injection h with h
          injection h with h1 h2
          injection h2 with h2 h3
          subst h2; subst h3
          rcases sigV_cases b with ⟨r0, r1, r2, r3, r4, r5, s0, s1, s2, s3, s4, s5, e1, e2⟩ | ⟨e1, _⟩
          · rw [hb] at e1
            injection e1 with e1
            injection e1 with e1 e3
            subst e1; subst e3
            exact ⟨rfl, rfl⟩
          · rw [hb] at e1; cases e1
        · cases h
      · cases h
    · cases h
  · cases h
theorem t_Signed (hK : SubK G) (hg : GroupG G) (F : Nat) (hF : 1048580 < F) (hF2 : F ≤ 140737488355328) (n : Nat) (b : List Int) (nl : Bool) (hnl : nl = true → b = []) (hb : ∀ c ∈ b, 0 ≤ c ∧ c < 256) :
    callN (envG G) F (n + 81) 6 [.d (.nums .u8 nl b)] = some ⟨signedV (parseB b), []⟩ := by
  have hp : callN (envG G) F (n + 80) _ _ = _ := t_Parse (G := G) F hF (n + 60) b nl hnl hb
  have hq : ∀ x, parseB b = .ok x → callN (envG G) F (n + 80) _ _ = _ := fun x hx => t_Parts0 (G := G) hK hg F hF hF2 n x (kids_ok hb hx)
  clear hK hg
  generalize parseB b = r at *
  cases r with
  | bad c p =>
    clear hq
    simp only [parseV, zeroT, Tlv.cells, Tlv.cellsL] at hp
    simp only [signedV, noSig, sigD, List.map, List.cons_append, List.nil_append]
    have hne : ∃ t x, atD c p = .ifc t x := by
      unfold atD; split
      · exact ⟨_, _, rfl⟩
      · exact ⟨_, _, rfl⟩
    obtain ⟨t, x, hne⟩ := hne
    rw [hne] at hp ⊢
    rw [callN_run (fn := Tryz.f6) rfl rfl rfl (by simp [Tryz.ntmps6])]
    generalize hC : (envG G).ctx 6 (callN (envG G) F (n+80)) (callP (envG G) F (n+80)) = C
    have htt : C.tt = (envG G).tt := by rw [← hC]; rfl
    have hlin : C.lin = [] := by rw [← hC]; rfl
    have hreg : C.reg = reg6 := by rw [← hC]; rfl
    have hcall : C.call = callN (envG G) F (n+80) := by rw [← hC]; rfl
    have hcallP : C.callP = callP (envG G) F (n+80) := by rw [← hC]; rfl
    have hlv_200007 : C.live 200007 = [] := by rw [← hC]; rfl
    have hlv_250007 : C.live 250007 = [] := by rw [← hC]; rfl
    clear hC
    simp [htt, hlin, hreg, reg6, hcall, hcallP, hlv_200007, hlv_250007, hp]
  | ok x =>
    have hq := hq x rfl
    simp only [signedV]
    cases hs : sigParts x with
    | none =>
      rw [hs] at hq
      simp only [partsV, zeroT, noSig, sigD, Tlv.cells, Tlv.cellsL, List.map, List.cons_append, List.nil_append] at hq ⊢
      obtain ⟨x1, x2, x3, x4, x5, x6, x7⟩ := x
      simp only [parseV, Tlv.cells] at hp hq
      unfold err
      rw [callN_run (fn := Tryz.f6) rfl rfl rfl (by simp [Tryz.ntmps6])]
      generalize hC : (envG G).ctx 6 (callN (envG G) F (n+80)) (callP (envG G) F (n+80)) = C
      have htt : C.tt = (envG G).tt := by rw [← hC]; rfl
      have hlin : C.lin = [] := by rw [← hC]; rfl
      have hreg : C.reg = reg6 := by rw [← hC]; rfl
      have hcall : C.call = callN (envG G) F (n+80) := by rw [← hC]; rfl
      have hcallP : C.callP = callP (envG G) F (n+80) := by rw [← hC]; rfl
      have hlv_200007 : C.live 200007 = [] := by rw [← hC]; rfl
      have hlv_250007 : C.live 250007 = [] := by rw [← hC]; rfl
      clear hC
      simp [htt, hlin, hreg, reg6, hcall, hcallP, hlv_200007, hlv_250007, hp, hq]
    | some q =>
      obtain ⟨k0, r, s⟩ := q
      rw [hs] at hq
      obtain ⟨h1, h2⟩ := sigParts_six hs
      obtain ⟨r0, r1, r2, r3, r4, r5, rfl⟩ := six h1
      obtain ⟨s0, s1, s2, s3, s4, s5, rfl⟩ := six h2
      clear hs h1 h2
      generalize k0.enc = en at *
      obtain ⟨y1, y2, y3, y4, y5, y6, y7⟩ := k0
      simp only [partsV, sigD, Tlv.cells, List.map, List.cons_append, List.nil_append] at hq ⊢
      obtain ⟨x1, x2, x3, x4, x5, x6, x7⟩ := x
      simp only [parseV, Tlv.cells] at hp hq
      rw [callN_run (fn := Tryz.f6) rfl rfl rfl (by simp [Tryz.ntmps6])]
      generalize hC : (envG G).ctx 6 (callN (envG G) F (n+80)) (callP (envG G) F (n+80)) = C
      have htt : C.tt = (envG G).tt := by rw [← hC]; rfl
      have hlin : C.lin = [] := by rw [← hC]; rfl
      have hreg : C.reg = reg6 := by rw [← hC]; rfl
      have hcall : C.call = callN (envG G) F (n+80) := by rw [← hC]; rfl
      have hcallP : C.callP = callP (envG G) F (n+80) := by rw [← hC]; rfl
      have hlv_200007 : C.live 200007 = [] := by rw [← hC]; rfl
      have hlv_250007 : C.live 250007 = [] := by rw [← hC]; rfl
      clear hC
      simp [htt, hlin, hreg, reg6, hcall, hcallP, hlv_200007, hlv_250007, hp, hq]
end Go.Proofs.YtjmcgdhekjkjfaaGreatDoor
set_option linter.unusedSimpArgs false
set_option linter.unusedVariables false
namespace Go.Proofs.YtjmcgdhekjkjfaaGreatDoor
open Go Go.VM
variable {G : GE}
set_option maxRecDepth 100000
set_option maxHeartbeats 4000000
def IsG (G : GE) : Prop := ∀ args, G.ext 18 args = isX args
theorem u_Is_spot (hG : IsG G) (F n : Nat) (q k p c : Int) : callN (envG G) F (n+1) 18 [.d (spotD k q), .d (.int .i64 p), .d (.int .i64 c)] = some ⟨[.d (.bool (decide (q = p ∧ k = c)))], []⟩ := by
  rw [callN_succ]
  have : (envG G).ext 18 [.d (spotD k q), .d (.int .i64 p), .d (.int .i64 c)] = some ⟨[.d (.bool (decide (q = p ∧ k = c)))], []⟩ := by
    show G.ext _ _ = _
    rw [hG]; rfl
  rw [this]
end Go.Proofs.YtjmcgdhekjkjfaaGreatDoor
set_option linter.unusedSimpArgs false
set_option linter.unusedVariables false
namespace Go.Proofs.YtjmcgdhekjkjfaaGreatDoor
open Go Go.VM
variable {G : GE}
set_option maxRecDepth 100000
set_option maxHeartbeats 4000000
theorem t_told20 (hG : IsG G) (F n : Nat) (hF : 22 < F) (c p : Int) (h : (p = -1 ∧ c = 2) ∨ 0 ≤ p ∧ 1 ≤ c ∧ c ≤ 9) :
    callN (envG G) F (n+2) 8 [.d (atD c p), .d (.int .i64 c), .d (.int .i64 p)] = some ⟨[.d (.bool true)], []⟩ := by
  have k1 := t_Code (G := G) F n hF c
  have k2 := u_Is_spot (G := G) hG F n p c p c
  rw [decide_eq_true ⟨rfl, rfl⟩] at k2
  rw [callN_run (fn := Tryz.f8) rfl rfl rfl (by simp [Tryz.ntmps8])]
  generalize hC : (envG G).ctx 8 (callN (envG G) F (n+1)) (callP (envG G) F (n+1)) = C
  have htt : C.tt = (envG G).tt := by rw [← hC]; rfl
  have hlin : C.lin = [] := by rw [← hC]; rfl
  have hreg : C.reg = reg8 := by rw [← hC]; rfl
  have hcall : C.call = callN (envG G) F (n+1) := by rw [← hC]; rfl
  have hcallP : C.callP = callP (envG G) F (n+1) := by rw [← hC]; rfl
  unfold atD
  by_cases h0 : p < 0
  · rw [if_pos h0]
    rw [if_pos (by omega)] at k1
    unfold err at *
    simp [htt, hlin, hreg, reg8, hcall, hcallP, h0, k1]
  · rw [if_neg h0]
    unfold spotD err at *
    simp [htt, hlin, hreg, reg8, hcall, hcallP, h0, k2]
end Go.Proofs.YtjmcgdhekjkjfaaGreatDoor
set_option linter.unusedSimpArgs false
set_option linter.unusedVariables false
namespace Go.Proofs.YtjmcgdhekjkjfaaGreatDoor
open Go Go.VM
variable {G : GE}
set_option maxRecDepth 100000
set_option maxHeartbeats 8000000
mutual
theorem enc_norm : ∀ x : Tlv, x.norm.enc = x.enc
  | .mk c t m n b e ks => by simp only [Tlv.norm, Tlv.enc, encL_norm ks]
theorem encL_norm : ∀ l : List Tlv, Tlv.encL (Tlv.normL l) = Tlv.encL l
  | [] => rfl
  | x :: l => by simp only [Tlv.normL, Tlv.encL, enc_norm x, encL_norm l]
end
def bitsT (b : List Int) : Tlv := .mk 0 3 false false (0 :: b) true []
def sealT (x : Tlv) (b : List Int) : Tlv := .mk 0 16 true true [] false [x, bitsT b]
theorem sealT_ok {x : Tlv} {b : List Int} (hf : x.fine = true) (hd : x.depth ≤ 16) (hw : x.weight ≤ 1048576) (ho : x.bytesOk) (hb : ∀ c ∈ b, 0 ≤ c ∧ c < 256) (hl : b.length ≤ 1200) :
    (sealT x b).fine = true ∧ (sealT x b).depth ≤ 17 ∧ (sealT x b).weight ≤ 1050000 ∧ (sealT x b).bytesOk := by
  refine ⟨?_, ?_, ?_, ?_⟩
  · simp [sealT, bitsT, Tlv.fine, Tlv.fineL, hf]
  · simp only [sealT, bitsT, Tlv.depth, Tlv.depthL]
    omega
  · simp only [sealT, bitsT, Tlv.weight, Tlv.weightL, List.length_nil, List.length_cons]
    omega
  · refine ⟨by simp, ho, ⟨fun c hc => ?_, trivial⟩, trivial⟩
    rcases List.mem_cons.1 hc with rfl | hc
    · omega
    · exact hb c hc
theorem sealT_parts {x : Tlv} {r s : List Int} (hr : In64 r) (hs : In64 s) (lr : r.length = 6) (ls : s.length = 6) (sr : isScalar r = true) (ss : isScalar s = true) :
    sigParts (sealT x (sigT r s).enc).norm = some (x.norm, r, s) := by
  obtain ⟨t1, t2, t3, t4⟩ := sigT_ok hr hs
  have hle := enc_le (sigT r s)
  have hp := parseB_enc t1 t2 (by omega)
  have hb : sigB (sigT r s).enc = some (r, s) := by
    unfold sigB
    rw [hp]
    simp only
    rw [sigT_back hr hs lr ls sr ss]
  simp only [sealT, bitsT, Tlv.norm, Tlv.normL, sigParts, true_and, if_true, Tlv.bits, hb]
theorem badW_seal {x : Tlv} {b : List Int} (hf : (sealT x b).fine = true) : badW (sealT x b) = 0 ∨ badW (sealT x b) = 9 ∨ badW (sealT x b) = 2 := by
  unfold badW
  rw [if_neg (by simp [hf])]
  split
  · exact .inr (.inl rfl)
  · split
    · exact .inr (.inr rfl)
    · exact .inl rfl
theorem t_told20c (F n : Nat) (hF : 22 < F) (c : Int) (h : 1 ≤ c ∧ c ≤ 21) :
    callN (envG G) F (n+2) 8 [.d (err c), .d (.int .i64 c), .d (.int .i64 (-1))] = some ⟨[.d (.bool true)], []⟩ := by
  have k1 := t_Code (G := G) F n hF c
  rw [if_pos h] at k1
  unfold err at *
  rw [callN_run (fn := Tryz.f8) rfl rfl rfl (by simp [Tryz.ntmps8])]
  generalize hC : (envG G).ctx 8 (callN (envG G) F (n+1)) (callP (envG G) F (n+1)) = C
  have htt : C.tt = (envG G).tt := by rw [← hC]; rfl
  have hlin : C.lin = [] := by rw [← hC]; rfl
  have hreg : C.reg = reg8 := by rw [← hC]; rfl
  have hcall : C.call = callN (envG G) F (n+1) := by rw [← hC]; rfl
  have hcallP : C.callP = callP (envG G) F (n+1) := by rw [← hC]; rfl
  clear hC
  simp [htt, hlin, hreg, reg8, hcall, hcallP, k1]
theorem t_told20_nil (F n : Nat) :
    callN (envG G) F (n+2) 8 [.d .nilifc, .d (.int .i64 0), .d (.int .i64 (-1))] = some ⟨[.d (.bool true)], []⟩ := by
  have k1 := t_Code_nil (G := G) F n
  rw [callN_run (fn := Tryz.f8) rfl rfl rfl (by simp [Tryz.ntmps8])]
  generalize hC : (envG G).ctx 8 (callN (envG G) F (n+1)) (callP (envG G) F (n+1)) = C
  have htt : C.tt = (envG G).tt := by rw [← hC]; rfl
  have hlin : C.lin = [] := by rw [← hC]; rfl
  have hreg : C.reg = reg8 := by rw [← hC]; rfl
  have hcall : C.call = callN (envG G) F (n+1) := by rw [← hC]; rfl
  have hcallP : C.callP = callP (envG G) F (n+1) := by rw [← hC]; rfl
  clear hC
  simp [htt, hlin, hreg, reg8, hcall, hcallP, k1]
theorem t_ePlain (F n : Nat) (k : Int) (nl : Bool) (b : List Int) : callN (envG G) F (n+1) 76 [.d (.int .i64 k), .d (.nums .u8 nl b)] = some ⟨[.d (.agg [.int .i64 0, .int .i64 k, .bool false, .nums .u8 nl b, .sl 5 true []])], []⟩ := by
  rw [callN_run (fn := Tryz.f76) rfl rfl rfl (by simp [Tryz.ntmps76])]
  generalize hC : (envG G).ctx 76 (callN (envG G) F (n)) (callP (envG G) F (n)) = C
  have htt : C.tt = (envG G).tt := by rw [← hC]; rfl
  have hlin : C.lin = [] := by rw [← hC]; rfl
  have hreg : C.reg = reg76 := by rw [← hC]; rfl
  have hcall : C.call = callN (envG G) F (n) := by rw [← hC]; rfl
  have hcallP : C.callP = callP (envG G) F (n) := by rw [← hC]; rfl
  clear hC
  simp [htt, hlin, hreg, reg76, hcall, hcallP]
theorem t_eBits (F n : Nat) (nl : Bool) (b : List Int) (hl : b.length ≤ 1048576) : callN (envG G) F (n+2) 52 [.d (.nums .u8 nl b)] = some ⟨[.d (.agg [.int .i64 0, .int .i64 3, .bool false, .nums .u8 false (0 :: b), .sl 5 true []])], []⟩ := by
  have k := t_ePlain (G := G) F n 3 false (0 :: b)
  have e1 : b.length ≤ 140737488355328 := by omega
  have e2 : b.length + 1 ≤ 140737488355328 := by omega
  have e3 : 1 + b.length ≤ 140737488355328 := by omega
  rw [callN_run (fn := Tryz.f52) rfl rfl rfl (by simp [Tryz.ntmps52])]
  generalize hC : (envG G).ctx 52 (callN (envG G) F (n+1)) (callP (envG G) F (n+1)) = C
  have htt : C.tt = (envG G).tt := by rw [← hC]; rfl
  have hlin : C.lin = [3] := by rw [← hC]; rfl
  have hreg : C.reg = reg52 := by rw [← hC]; rfl
  have hcall : C.call = callN (envG G) F (n+1) := by rw [← hC]; rfl
  have hcallP : C.callP = callP (envG G) F (n+1) := by rw [← hC]; rfl
  clear hC
  simp [htt, hlin, hreg, reg52, hcall, hcallP, k, e1, e2, e3]
theorem t_eList (F n : Nat) (nl : Bool) (l : List (List D)) : callN (envG G) F (n+1) 51 [.d (.sl 5 nl l)] = some ⟨[.d (.agg [.int .i64 0, .int .i64 16, .bool true, .nums .u8 true [], .sl 5 nl l])], []⟩ := by
  rw [callN_run (fn := Tryz.f51) rfl rfl rfl (by simp [Tryz.ntmps51])]
  generalize hC : (envG G).ctx 51 (callN (envG G) F (n)) (callP (envG G) F (n)) = C
  have htt : C.tt = (envG G).tt := by rw [← hC]; rfl
  have hlin : C.lin = [] := by rw [← hC]; rfl
  have hreg : C.reg = reg51 := by rw [← hC]; rfl
  have hcall : C.call = callN (envG G) F (n) := by rw [← hC]; rfl
  have hcallP : C.callP = callP (envG G) F (n) := by rw [← hC]; rfl
  clear hC
  simp [htt, hlin, hreg, reg51, hcall, hcallP]
theorem t_rList (F n : Nat) (nl : Bool) (l : List (List D)) : callN (envG G) F (n+1) 27 [.d (.sl 5 nl l)] = some ⟨[.d (.agg [.int .i64 0, .int .i64 16, .bool true, .nums .u8 true [], .sl 5 nl l])], []⟩ := by
  rw [callN_run (fn := Tryz.f27) rfl rfl rfl (by simp [Tryz.ntmps27])]
  generalize hC : (envG G).ctx 27 (callN (envG G) F (n)) (callP (envG G) F (n)) = C
  have htt : C.tt = (envG G).tt := by rw [← hC]; rfl
  have hlin : C.lin = [] := by rw [← hC]; rfl
  have hreg : C.reg = reg27 := by rw [← hC]; rfl
  have hcall : C.call = callN (envG G) F (n) := by rw [← hC]; rfl
  have hcallP : C.callP = callP (envG G) F (n) := by rw [← hC]; rfl
  clear hC
  simp [htt, hlin, hreg, reg27, hcall, hcallP]
end Go.Proofs.YtjmcgdhekjkjfaaGreatDoor
set_option linter.unusedSimpArgs false
set_option linter.unusedVariables false
namespace Go.Proofs.YtjmcgdhekjkjfaaGreatDoor
open Go Go.VM
variable {G : GE}
set_option maxRecDepth 100000
set_option maxHeartbeats 8000000
def sealC (p : Res Tlv) (r s : List Int) : List Int × Int × Int :=
  match p with
  | .bad c p => ([], c, p)
  | .ok x => match isScalar r && isScalar s with
    | true => (if badW (sealT x (sigT r s).enc) = 0 then (sealT x (sigT r s).enc).enc else [], badW (sealT x (sigT r s).enc), -1)
    | false => ([], 3, -1)
def bytesV (c : Int) (b : List Int) : D := if c = 0 then .nums .u8 false b else .nums .u8 true []
def whyV (c p : Int) : D := if c = 0 then .nilifc else atD c p
theorem sig_len {r s : List Int} (hr : In64 r) (hs : In64 s) : (sigT r s).enc.length ≤ 1200 := by
  have h := enc_le (sigT r s)
  have h2 := (sigT_ok hr hs).2.2.1
  omega
theorem t_Seal (hK : SubK G) (hg : GroupG G) (F : Nat) (hF : 1100000 < F) (hF2 : F ≤ 140737488355328) (n : Nat) (b : List Int) (nl : Bool) (hnl : nl = true → b = []) (hb : ∀ c ∈ b, 0 ≤ c ∧ c < 256)
    (a0 a1 a2 a3 a4 a5 b0 b1 b2 b3 b4 b5 : Int) (ha : In64 [a0, a1, a2, a3, a4, a5]) (hc : In64 [b0, b1, b2, b3, b4, b5]) :
    callN (envG G) F (n + 80) 25 [.d (.nums .u8 nl b), .d (sigD [a0, a1, a2, a3, a4, a5] [b0, b1, b2, b3, b4, b5]), .d (.sl 5 true [])] =
      some ⟨[.d (bytesV (sealC (parseB b) [a0, a1, a2, a3, a4, a5] [b0, b1, b2, b3, b4, b5]).2.1 (sealC (parseB b) [a0, a1, a2, a3, a4, a5] [b0, b1, b2, b3, b4, b5]).1), .d (whyV (sealC (parseB b) [a0, a1, a2, a3, a4, a5] [b0, b1, b2, b3, b4, b5]).2.1 (sealC (parseB b) [a0, a1, a2, a3, a4, a5] [b0, b1, b2, b3, b4, b5]).2.2)], [0]⟩ := by
  have hp : callN (envG G) F (n + 79) _ _ = _ := t_Parse (G := G) F (by omega) (n + 59) b nl hnl hb
  have hE : callN (envG G) F (n + 79) _ _ = _ := t_eEncode (G := G) hK hg F (by omega) hF2 (n + 9) a0 a1 a2 a3 a4 a5 b0 b1 b2 b3 b4 b5 ha hc
  have hB : ∀ (b : List Int) (h : b.length ≤ 1048576), callN (envG G) F (n + 79) _ _ = _ := fun b h => t_eBits (G := G) F (n + 77) false b h
  have hL : ∀ nl l, callN (envG G) F (n + 79) _ _ = _ := fun nl l => t_eList (G := G) F (n + 78) nl l
  have hW : ∀ T : Tlv, T.depth ≤ 17 → T.weight ≤ 1050000 → callN (envG G) F (n + 79) _ _ = _ := fun T h1 h2 => t_Write (G := G) F hF2 1050000 (by omega) (by omega) 17 (n + 9) T (by omega) h1 (weight_width (W := 1050000) T h2)
  have hsl := sig_len ha hc
  obtain ⟨t1, t2, t3, t4⟩ := sigT_ok ha hc
  have heb := enc_bytes _ t1 t4 (by omega)
  have hT : ∀ x, parseB b = .ok x → (sealT x (sigT [a0, a1, a2, a3, a4, a5] [b0, b1, b2, b3, b4, b5]).enc).depth ≤ 17 ∧ (sealT x (sigT [a0, a1, a2, a3, a4, a5] [b0, b1, b2, b3, b4, b5]).enc).weight ≤ 1050000 := fun x hx => by
    obtain ⟨h1, h2, h3, h4, h5, h6⟩ := parseB_ok hb hx
    have := sealT_ok h3 h4 (by omega) h5 heb (by omega)
    exact ⟨this.2.1, this.2.2.1⟩
  have hbad : ∀ c p, parseB b = .bad c p → _ := fun c p h => parseB_bad2 h
  have hB := hB (sigT [a0, a1, a2, a3, a4, a5] [b0, b1, b2, b3, b4, b5]).enc (by omega)
  clear hK hg ha hc t1 t2 t3 t4 heb hsl
  generalize parseB b = r at *
  cases r with
  | bad c p =>
    clear hT hW hE hB hL
    have hc0 : c ≠ 0 := by have := hbad c p rfl; omega
    simp only [parseV, zeroT, Tlv.cells, Tlv.cellsL] at hp
    simp only [sealC, bytesV, whyV, if_neg hc0, sigD, List.map, List.cons_append, List.nil_append]
    have hne : ∃ t x, atD c p = .ifc t x := by
      unfold atD; split
      · exact ⟨_, _, rfl⟩
      · exact ⟨_, _, rfl⟩
    obtain ⟨t, x, hne⟩ := hne
    rw [hne] at hp ⊢
    rw [callN_run (fn := Tryz.f25) rfl rfl rfl (by simp [Tryz.ntmps25])]
    generalize hC : (envG G).ctx 25 (callN (envG G) F (n+79)) (callP (envG G) F (n+79)) = C
    have htt : C.tt = (envG G).tt := by rw [← hC]; rfl
    have hlin : C.lin = [15, 23, 9, 38, 37, 26, 18, 7, 6, 28, 30] := by rw [← hC]; rfl
    have hreg : C.reg = reg25 := by rw [← hC]; rfl
    have hcall : C.call = callN (envG G) F (n+79) := by rw [← hC]; rfl
    have hcallP : C.callP = callP (envG G) F (n+79) := by rw [← hC]; rfl
    clear hC
    simp [htt, hlin, hreg, reg25, hcall, hcallP, hp, hc0]
  | ok x =>
    obtain ⟨hT1, hT2⟩ := hT x rfl
    have hW := hW _ hT1 hT2
    clear hT hT1 hT2 hbad
    simp only [sealC]
    generalize (sigT [a0, a1, a2, a3, a4, a5] [b0, b1, b2, b3, b4, b5]).enc = en at *
    generalize isScalar [a0, a1, a2, a3, a4, a5] = sa at *
    generalize isScalar [b0, b1, b2, b3, b4, b5] = sb at *
    generalize hbw : badW (sealT x en) = bw at *
    generalize (sealT x en).enc = T at *
    simp only [sealT, bitsT, Tlv.cells, Tlv.cellsL] at hW
    obtain ⟨x1, x2, x3, x4, x5, x6, x7⟩ := x
    simp only [parseV, Tlv.cells, sigD, List.map, List.cons_append, List.nil_append] at *
    by_cases hsc : (sa && sb) = true
    · rw [hsc]
      simp only
      obtain ⟨rfl, rfl⟩ : sa = true ∧ sb = true := by simpa using hsc
      simp only [and_self, if_true] at hE
      by_cases h0 : bw = 0
      · subst h0
        simp only [bytesV, whyV, errD, if_true] at hW ⊢
        rw [callN_run (fn := Tryz.f25) rfl rfl rfl (by simp [Tryz.ntmps25])]
        generalize hC : (envG G).ctx 25 (callN (envG G) F (n+79)) (callP (envG G) F (n+79)) = C
        have htt : C.tt = (envG G).tt := by rw [← hC]; rfl
        have hlin : C.lin = [15, 23, 9, 38, 37, 26, 18, 7, 6, 28, 30] := by rw [← hC]; rfl
        have hreg : C.reg = reg25 := by rw [← hC]; rfl
        have hcall : C.call = callN (envG G) F (n+79) := by rw [← hC]; rfl
        have hcallP : C.callP = callP (envG G) F (n+79) := by rw [← hC]; rfl
        clear hC
        simp [htt, hlin, hreg, reg25, hcall, hcallP, hp, hE, hB, hL, hW]
      · simp only [bytesV, whyV, errD, if_neg h0, atD] at hW ⊢
        rw [if_pos (by omega)]
        unfold err at hW ⊢
        rw [callN_run (fn := Tryz.f25) rfl rfl rfl (by simp [Tryz.ntmps25])]
        generalize hC : (envG G).ctx 25 (callN (envG G) F (n+79)) (callP (envG G) F (n+79)) = C
        have htt : C.tt = (envG G).tt := by rw [← hC]; rfl
        have hlin : C.lin = [15, 23, 9, 38, 37, 26, 18, 7, 6, 28, 30] := by rw [← hC]; rfl
        have hreg : C.reg = reg25 := by rw [← hC]; rfl
        have hcall : C.call = callN (envG G) F (n+79) := by rw [← hC]; rfl
        have hcallP : C.callP = callP (envG G) F (n+79) := by rw [← hC]; rfl
        clear hC
        simp [htt, hlin, hreg, reg25, hcall, hcallP, hp, hE, hB, hL, hW]
    · have hsc : (sa && sb) = false := by simpa using hsc
      rw [hsc]
      have h2 : ¬ (sa = true ∧ sb = true) := by
        rintro ⟨rfl, rfl⟩
        cases hsc
      rw [if_neg h2] at hE
      simp only [bytesV, whyV, atD]
      rw [if_neg (by omega), if_neg (by omega), if_pos (by omega)]
      unfold err at hE ⊢
      rw [callN_run (fn := Tryz.f25) rfl rfl rfl (by simp [Tryz.ntmps25])]
      generalize hC : (envG G).ctx 25 (callN (envG G) F (n+79)) (callP (envG G) F (n+79)) = C
      have htt : C.tt = (envG G).tt := by rw [← hC]; rfl
      have hlin : C.lin = [15, 23, 9, 38, 37, 26, 18, 7, 6, 28, 30] := by rw [← hC]; rfl
      have hreg : C.reg = reg25 := by rw [← hC]; rfl
      have hcall : C.call = callN (envG G) F (n+79) := by rw [← hC]; rfl
      have hcallP : C.callP = callP (envG G) F (n+79) := by rw [← hC]; rfl
      clear hC
      simp [htt, hlin, hreg, reg25, hcall, hcallP, hp, hE]
theorem t_Sign (hK : SubK G) (hg : GroupG G) (F : Nat) (hF : 1100000 < F) (hF2 : F ≤ 140737488355328) (n : Nat) (b : List Int) (nl : Bool) (hnl : nl = true → b = []) (hb : ∀ c ∈ b, 0 ≤ c ∧ c < 256)
    (a0 a1 a2 a3 a4 a5 b0 b1 b2 b3 b4 b5 : Int) (ha : In64 [a0, a1, a2, a3, a4, a5]) (hc : In64 [b0, b1, b2, b3, b4, b5]) :
    callN (envG G) F (n + 81) 10 [.d (.nums .u8 nl b), .d (sigD [a0, a1, a2, a3, a4, a5] [b0, b1, b2, b3, b4, b5])] =
      some ⟨[.d (bytesV (sealC (parseB b) [a0, a1, a2, a3, a4, a5] [b0, b1, b2, b3, b4, b5]).2.1 (sealC (parseB b) [a0, a1, a2, a3, a4, a5] [b0, b1, b2, b3, b4, b5]).1), .d (whyV (sealC (parseB b) [a0, a1, a2, a3, a4, a5] [b0, b1, b2, b3, b4, b5]).2.1 (sealC (parseB b) [a0, a1, a2, a3, a4, a5] [b0, b1, b2, b3, b4, b5]).2.2)], [0]⟩ := by
  have k := t_Seal (G := G) hK hg F hF hF2 n b nl hnl hb a0 a1 a2 a3 a4 a5 b0 b1 b2 b3 b4 b5 ha hc
  generalize sealC (parseB b) [a0, a1, a2, a3, a4, a5] [b0, b1, b2, b3, b4, b5] = q at *
  obtain ⟨q1, q2, q3⟩ := q
  simp only at *
  have hbv : (∃ t, bytesV q2 q1 = .nums .u8 t (if q2 = 0 then q1 else [])) := by
    unfold bytesV; split <;> exact ⟨_, rfl⟩
  obtain ⟨t, hbv⟩ := hbv
  rw [hbv] at k ⊢
  have hwv : whyV q2 q3 = .nilifc ∨ ∃ t x, whyV q2 q3 = .ifc t x := by
    unfold whyV atD; split
    · exact .inl rfl
    · split
      · exact .inr ⟨_, _, rfl⟩
      · exact .inr ⟨_, _, rfl⟩
  clear hK hg ha hc hb hbv
  generalize whyV q2 q3 = w at *
  generalize (if q2 = 0 then q1 else []) = y at *
  simp only [sigD, List.map, List.cons_append, List.nil_append] at *
  rcases hwv with rfl | ⟨t', x', rfl⟩
  · skip
    rw [callN_run (fn := Tryz.f10) rfl rfl rfl (by simp [Tryz.ntmps10])]
    generalize hC : (envG G).ctx 10 (callN (envG G) F (n+80)) (callP (envG G) F (n+80)) = C
    have htt : C.tt = (envG G).tt := by rw [← hC]; rfl
    have hlin : C.lin = [] := by rw [← hC]; rfl
    have hreg : C.reg = reg10 := by rw [← hC]; rfl
    have hcall : C.call = callN (envG G) F (n+80) := by rw [← hC]; rfl
    have hcallP : C.callP = callP (envG G) F (n+80) := by rw [← hC]; rfl
    clear hC
    simp [htt, hlin, hreg, reg10, hcall, hcallP, k]
  · skip
    rw [callN_run (fn := Tryz.f10) rfl rfl rfl (by simp [Tryz.ntmps10])]
    generalize hC : (envG G).ctx 10 (callN (envG G) F (n+80)) (callP (envG G) F (n+80)) = C
    have htt : C.tt = (envG G).tt := by rw [← hC]; rfl
    have hlin : C.lin = [] := by rw [← hC]; rfl
    have hreg : C.reg = reg10 := by rw [← hC]; rfl
    have hcall : C.call = callN (envG G) F (n+80) := by rw [← hC]; rfl
    have hcallP : C.callP = callP (envG G) F (n+80) := by rw [← hC]; rfl
    clear hC
    simp [htt, hlin, hreg, reg10, hcall, hcallP, k]
end Go.Proofs.YtjmcgdhekjkjfaaGreatDoor
