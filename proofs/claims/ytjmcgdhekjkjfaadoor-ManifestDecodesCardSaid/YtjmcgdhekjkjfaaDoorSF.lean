/- What manifest.Decode hands back. -/
import Derived.Test.YtjmcgdhekjkjfaaDoorSE
import Derived.Test.YtjmcgdhekjkjfaaDoorProg
import Derived.WalkKit
import Derived.LaidEql
import Derived.Stop.Asserts
import Derived.RowKitTokens
import Derived.KernelRfl
set_option linter.unusedSimpArgs false
set_option linter.unusedVariables false
namespace Go.Proofs.YtjmcgdhekjkjfaaDoor
open Go Go.VM
variable {G : GE}
set_option maxRecDepth 100000
set_option maxHeartbeats 4000000

mutual
/-- Nil where nothing is, or not nil. -/
def Tlv.nilOk : Tlv → Prop
  | .mk _ _ _ bn b kn ks => (bn = true → b = []) ∧ (kn = true → ks = []) ∧ Tlv.nilOkL ks
def Tlv.nilOkL : List Tlv → Prop
  | [] => True
  | x :: l => x.nilOk ∧ Tlv.nilOkL l
end
theorem nilOk_mem {x : Tlv} : ∀ {l : List Tlv}, Tlv.nilOkL l → x ∈ l → x.nilOk
  | y :: l, hf, h => by
    simp only [Tlv.nilOkL] at hf
    rcases List.mem_cons.1 h with rfl | h
    · exact hf.1
    · exact nilOk_mem hf.2 h

theorem kidsB_nil {g : Nat → Nat → Res (Tlv × Nat)} (hg : ∀ i t x nx, g i t = .ok (x, nx) → x.nilOk) : ∀ (k fr to : Nat) (l : List Tlv), kidsB g k fr to = .ok l → Tlv.nilOkL l
  | 0, fr, to, l, h => by simp only [kidsB] at h; injection h with h; subst h; trivial
  | k + 1, fr, to, l, h => by
    simp only [kidsB] at h
    split at h
    · split at h
      · cases h
      · rename_i x nx h1
        split at h
        · cases h
        · rename_i l' h2
          injection h with h; subst h
          exact ⟨hg _ _ _ _ h1, kidsB_nil hg k _ _ _ h2⟩
    · injection h with h; subst h; trivial
theorem elemB_nil {b : List Int} : ∀ (d i stop : Nat) (x : Tlv) (nx : Nat), elemB b d i stop = .ok (x, nx) → x.nilOk
  | 0, i, stop, x, nx, h => by cases h
  | d + 1, i, stop, x, nx, h => by
    simp only [elemB] at h
    split at h
    · cases h
    split at h
    · cases h
    split at h
    · cases h
    split at h
    · split at h
      · cases h
      · rename_i l hl
        injection h with h; injection h with h1 h2; subst h1
        refine ⟨fun _ => rfl, fun h => ?_, kidsB_nil (fun i t x nx h => elemB_nil d i t x nx h) _ _ _ _ hl⟩
        cases l with
        | nil => rfl
        | cons a l => cases h
    · injection h with h; injection h with h1 h2; subst h1
      exact ⟨fun h => (by cases h), fun _ => rfl, trivial⟩
theorem parseB_nil {b : List Int} {x : Tlv} (h : parseB b = .ok x) : x.nilOk := by
  unfold parseB at h
  split at h
  · cases h
  split at h
  · cases h
  rename_i he
  split at h
  · cases h
  · injection h with h; subst h; exact elemB_nil _ _ _ _ _ he

def Tlv.kids : Tlv → List Tlv
  | .mk _ _ _ _ _ _ ks => ks
theorem weight_mem {x : Tlv} {l : List Tlv} (h : x ∈ l) : x.weight ≤ Tlv.weightL l := weightL_mem h
theorem plainOk_of {x : Tlv} {W : Nat} (h1 : x.nilOk) (h2 : x.bytesOk) (h3 : x.weight ≤ W) (hW : W ≤ 1048576) : x.plainOk := by
  obtain ⟨x1, x2, x3, x4, x5, x6, x7⟩ := x
  simp only [Tlv.weight] at h3
  exact ⟨h1.1, by omega, h2.1⟩

/-- The manifest that an element is. -/
def Tlv.man : Tlv → Option D
  | .mk x1 x2 x3 _ _ _ [k0, k1, k2, k3, k4, k5, k6] =>
    if x1 = 0 ∧ x2 = 16 ∧ x3 = true ∧ (k0.isSmall && k1.isSmall && k2.isSmall && k3.isSmall) = true ∧ (k4.isBytes 12 && k5.isBytes 145 && k6.isBytes 48) = true then
      some (.agg [.int .i64 k0.valS, .int .i64 k1.valS, .int .i64 k2.valS, .int .i64 k3.valS, k4.bodyD, k5.bodyD, k6.bodyD]) else none
  | _ => none
def decodeV : Res Tlv → List V
  | .bad c p => [.d zeroMD, .d (atD c p)]
  | .ok x => match x.man with
    | some d => [.d d, .d .nilifc]
    | none => [.d zeroMD, .d (err 7)]

theorem seven_of {l : List Tlv} (h : l.length = 7) : ∃ k0 k1 k2 k3 k4 k5 k6, l = [k0, k1, k2, k3, k4, k5, k6] := by
  match l, h with
  | [k0, k1, k2, k3, k4, k5, k6], _ => exact ⟨k0, k1, k2, k3, k4, k5, k6, rfl⟩
theorem man_none {x1 x2 : Int} {x3 x4 x6 : Bool} {x5 : List Int} {x7 : List Tlv} (h : ¬ (x1 = 0 ∧ x2 = 16 ∧ x3 = true ∧ x7.length = 7)) : Tlv.man (.mk x1 x2 x3 x4 x5 x6 x7) = none := by
  unfold Tlv.man
  split
  · rename_i h1
    injection h1 with a1 a2 a3 a4 a5 a6 a7
    subst a7
    rw [if_neg (fun h2 => h ⟨by rw [a1]; exact h2.1, by rw [a2]; exact h2.2.1, by rw [a3]; exact h2.2.2.1, rfl⟩)]
  · rfl

theorem t_Decode (F : Nat) (hF : 1048580 < F) (n : Nat) (b : List Int) (nl : Bool) (hnl : nl = true → b = []) (hb : ∀ c ∈ b, 0 ≤ c ∧ c < 256) :
    callN (envG G) F (n + 30) 19 [.d (.nums .u8 nl b)] = some ⟨decodeV (parseB b), []⟩ := by
  have hp : callN (envG G) F (n + 29) _ _ = _ := t_Parse (G := G) F hF (n + 9) b nl hnl hb
  have hl : ∀ x1 x2 x3 x4 x5 x6 x7 k, callN (envG G) F (n + 29) _ _ = _ := fun x1 x2 x3 x4 x5 x6 x7 k => t_IsList (G := G) F (n + 28) x1 x2 x3 x4 x5 x6 x7 k
  have hk : ∀ x, parseB b = .ok x → ∀ y ∈ x.kids, y.plainOk := fun x hx y hy => by
    have h := parseB_ok hb hx
    have h2 := parseB_nil hx
    obtain ⟨x1, x2, x3, x4, x5, x6, x7⟩ := x
    simp only [Tlv.kids] at hy
    have h3 := h.2.2.2.2.2
    simp only [Tlv.weight] at h3
    have h4 := weight_mem hy
    exact plainOk_of (W := 1048576) (nilOk_mem h2.2.2 hy) (bytesOk_mem h.2.2.2.2.1.2 hy) (by omega) (by omega)
  rw [callN_run (fn := Tryd.f19) rfl rfl rfl (by simp [Tryd.ntmps19])]
  generalize hC : (envG G).ctx 19 (callN (envG G) F (n+29)) (callP (envG G) F (n+29)) = C
  have htt : C.tt = (envG G).tt := by rw [← hC]; rfl
  have hlin : C.lin = [] := by rw [← hC]; rfl
  have hreg : C.reg = reg19 := by rw [← hC]; rfl
  have hcall : C.call = callN (envG G) F (n+29) := by rw [← hC]; rfl
  have hcallP : C.callP = callP (envG G) F (n+29) := by rw [← hC]; rfl
  have hlv_8 : C.live 8 = [2, 4, 6, 33, 34, 35] := by rw [← hC]; rfl
  have hlv_100008 : C.live 100008 = [2, 3, 4, 6] := by rw [← hC]; rfl
  have hlv_17 : C.live 17 = [2, 4, 6, 11, 61, 62, 63] := by rw [← hC]; rfl
  have hlv_100017 : C.live 100017 = [2, 3, 6] := by rw [← hC]; rfl
  have hlv_200020 : C.live 200020 = [] := by rw [← hC]; rfl
  generalize hpb : parseB b = r at *
  cases r with
  | bad c p =>
    clear hk
    simp only [parseV, zeroT, Tlv.cells, Tlv.cellsL] at hp
    simp only [decodeV]
    unfold zeroMD
    have hne : ∃ t x, atD c p = .ifc t x := by
      unfold atD; split
      · exact ⟨_, _, rfl⟩
      · exact ⟨_, _, rfl⟩
    obtain ⟨t, x, hne⟩ := hne
    rw [hne] at hp ⊢
    simp [htt, hlin, hreg, reg19, hcall, hcallP, hlv_8, hlv_100008, hlv_17, hlv_100017, hlv_200020, hp]
  | ok x =>
    obtain ⟨x1, x2, x3, x4, x5, x6, x7⟩ := x
    have hk' := hk _ rfl
    simp only [Tlv.kids] at hk'
    clear hk
    simp only [parseV, Tlv.cells] at hp
    have hl' := hl x1 x2 x3 x4 x5 x6 x7 7
    by_cases h : x1 = 0 ∧ x2 = 16 ∧ x3 = true ∧ x7.length = 7
    case neg =>
      have h2 : ¬ (x1 = 0 ∧ x2 = 16 ∧ x3 = true ∧ ((7 : Int) < 0 ∨ (x7.length : Int) = 7)) := by
        rintro ⟨a, b, c, d⟩
        exact h ⟨a, b, c, by omega⟩
      rw [decide_eq_false h2] at hl'
      simp only [decodeV, man_none h]
      unfold zeroMD err
      simp [htt, hlin, hreg, reg19, hcall, hcallP, hlv_8, hlv_100008, hlv_17, hlv_100017, hlv_200020, hp, hl']
    case pos =>
      obtain ⟨rfl, rfl, rfl, h7⟩ := h
      rw [decide_eq_true ⟨rfl, rfl, rfl, by omega⟩] at hl'
      obtain ⟨k0, k1, k2, k3, k4, k5, k6, hx7⟩ := seven_of h7
      obtain ⟨v0, g0, w0⟩ := t_SmallOf' (G := G) F (n + 25) (by omega) k0 (hk' k0 (by simp [hx7]))
      obtain ⟨v1, g1, w1⟩ := t_SmallOf' (G := G) F (n + 25) (by omega) k1 (hk' k1 (by simp [hx7]))
      obtain ⟨v2, g2, w2⟩ := t_SmallOf' (G := G) F (n + 25) (by omega) k2 (hk' k2 (by simp [hx7]))
      obtain ⟨v3, g3, w3⟩ := t_SmallOf' (G := G) F (n + 25) (by omega) k3 (hk' k3 (by simp [hx7]))
      obtain ⟨b4, g4, w4⟩ := t_IsPlain' (G := G) F (n + 28) k4 4
      obtain ⟨b5, g5, w5⟩ := t_IsPlain' (G := G) F (n + 28) k5 4
      obtain ⟨b6, g6, w6⟩ := t_IsPlain' (G := G) F (n + 28) k6 4
      have hL1 := fun st h => by
        have hq := loop_dec1 (G := G) hC rfl (.int .i64 0) (.int .i64 16) (.bool true) (.nums .u8 x4 x5) x6 x7 k0 k1 k2 k3 v0 v1 v2 v3 (by simp [hx7]) (by simp [hx7]) (by simp [hx7]) (by simp [hx7]) g0 g1 g2 g3 (F - 5) st h
        rw [show F - 5 + 5 = F by omega] at hq
        exact hq
      have hL2 := fun st h => by
        have hq := loop_dec2 (G := G) hC rfl (.int .i64 0) (.int .i64 16) (.bool true) (.nums .u8 x4 x5) x6 x7 k4 k5 k6 v0 v1 v2 v3 b4 b5 b6 (by simp [hx7]) (by simp [hx7]) (by simp [hx7]) g4 g5 g6 (F - 4) st h
        rw [show F - 4 + 4 = F by omega] at hq
        exact hq
      have hman : Tlv.man (.mk 0 16 true x4 x5 x6 x7) = if (k0.isSmall && k1.isSmall && k2.isSmall && k3.isSmall) = true ∧ ((b4 && decide (k4.body.length = 12)) && (b5 && decide (k5.body.length = 145)) && (b6 && decide (k6.body.length = 48))) = true then
          some (.agg [.int .i64 v0, .int .i64 v1, .int .i64 v2, .int .i64 v3, k4.bodyD, k5.bodyD, k6.bodyD]) else none := by
        rw [hx7]
        rw [w4 rfl, w5 rfl, w6 rfl]
        unfold Tlv.man
        by_cases hs : (k0.isSmall && k1.isSmall && k2.isSmall && k3.isSmall) = true
        · have hs' := hs
          simp only [Bool.and_eq_true] at hs'
          rw [w0 hs'.1.1.1, w1 hs'.1.1.2, w2 hs'.1.2, w3 hs'.2]
          simp [hs]
        · simp [hs]
      clear w0 w1 w2 w3 w4 w5 w6 hC hk' hx7
      unfold zeroM tlvK fourP at hL1
      unfold zeroM tlvK fourP threeP at hL2
      unfold zeroMD err at hL1 hL2
      simp only [decodeV]
      rw [hman]
      clear hman
      unfold zeroMD err
      generalize (k0.isSmall && k1.isSmall && k2.isSmall && k3.isSmall) = s at *
      generalize ((b4 && decide (k4.body.length = 12)) && (b5 && decide (k5.body.length = 145)) && (b6 && decide (k6.body.length = 48))) = u at *
      generalize k4.bodyD = d4 at *
      generalize k5.bodyD = d5 at *
      generalize k6.bodyD = d6 at *
      cases s with
      | false =>
        simp only [Bool.false_eq_true, if_false, false_and] at hL1 ⊢
        have hL := fun st h => Classical.choose_spec (hL1 st h)
        simp [Tryd.f19, htt, hlin, hreg, reg19, hcall, hcallP, hlv_8, hlv_100008, hlv_17, hlv_100017, hlv_200020] at hL
        simp [htt, hlin, hreg, reg19, hcall, hcallP, hlv_8, hlv_100008, hlv_17, hlv_100017, hlv_200020, hp, hl', ev_loop]
        rw [(hL _ (by simp)).1]
        simp [htt, hlin, hreg, reg19, hcall, hcallP, hlv_8, hlv_100008, hlv_17, hlv_100017, hlv_200020]
        exact (hL _ (by simp)).2
      | true =>
        simp only [if_true, true_and] at hL1 ⊢
        simp [htt, hlin, hreg, reg19, hcall, hcallP, hlv_8, hlv_100008, hlv_17, hlv_100017, hlv_200020, hp, hl', ev_loop]
        rw [hL1 _ (by simp)]
        cases u with
        | false =>
          simp only [Bool.false_eq_true, if_false] at hL2 ⊢
          have hL := fun st h => Classical.choose_spec (hL2 st h)
          simp [Tryd.f19, htt, hlin, hreg, reg19, hcall, hcallP, hlv_8, hlv_100008, hlv_17, hlv_100017, hlv_200020] at hL
          simp [htt, hlin, hreg, reg19, hcall, hcallP, hlv_8, hlv_100008, hlv_17, hlv_100017, hlv_200020, ev_loop]
          rw [(hL _ (by simp)).1]
          simp [htt, hlin, hreg, reg19, hcall, hcallP, hlv_8, hlv_100008, hlv_17, hlv_100017, hlv_200020]
          exact (hL _ (by simp)).2
        | true =>
          simp only [if_true] at hL2 ⊢
          simp [htt, hlin, hreg, reg19, hcall, hcallP, hlv_8, hlv_100008, hlv_17, hlv_100017, hlv_200020, ev_loop]
          rw [hL2 _ (by simp)]
          simp [htt, hlin, hreg, reg19, hcall, hcallP, hlv_8, hlv_100008, hlv_17, hlv_100017, hlv_200020]
end Go.Proofs.YtjmcgdhekjkjfaaDoor

/- What the law's read hands back. -/
set_option linter.unusedSimpArgs false
set_option linter.unusedVariables false
namespace Go.Proofs.YtjmcgdhekjkjfaaDoor
open Go Go.VM
variable {G : GE}
set_option maxRecDepth 100000
set_option maxHeartbeats 16000000

/-- Is it bytes? -/
def Tlv.isB : Tlv → Bool
  | .mk x1 x2 x3 _ _ _ _ => decide (x1 = 0) && decide (x2 = 4) && !x3
theorem isBytes_eq (x : Tlv) (n : Nat) : x.isBytes n = (x.isB && decide (x.body.length = n)) := by
  obtain ⟨x1, x2, x3, x4, x5, x6, x7⟩ := x
  simp only [Tlv.isBytes, Tlv.isB, Tlv.body]
  by_cases hl : x5.length = n <;> by_cases h1 : x1 = 0 <;> by_cases h2 : x2 = 4 <;> cases x3 <;> simp [h1, h2, hl]

theorem t_r16Small' (F n : Nat) (hF : 100 ≤ F) (x : Tlv) (h : x.plainOk) : ∃ v, callN (envG G) F (n+3) 68 [.d (.agg x.cells)] = some ⟨[.d (.int .i64 v), .d (.bool x.isSmall)], []⟩ ∧ (x.isSmall = true → v = x.valS) := by
  obtain ⟨x1, x2, x3, x4, x5, x6, x7⟩ := x
  have k := t_r16Small (G := G) F n hF x1 x2 x3 x4 x5 x6 x7 h.1 h.2.1 h.2.2
  exact ⟨_, k, fun _ => rfl⟩

theorem loop_read {m : Nat} {C : Ctx} {F : Nat} (hC : (envG G).ctx 22 (callN (envG G) F (m)) (callP (envG G) F (m)) = C) {c : Code} (hc : loopAt 11 Tryd.f22 = some c) (p0 p1 p2 p3 : D) (x6 : Bool) (x7 : List Tlv) (k4 k5 k6 : Tlv) (v0 v1 v2 v3 : Int)
    (h4 : x7[4]? = some k4) (h5 : x7[5]? = some k5) (h6 : x7[6]? = some k6) (k : Nat) (st : St)
    (hst : st.trim 2 [1, 2, 5, 7, 9, 11, 13] = ⟨[(1, .ptr 0 0), (2, .ptr 1 0), (5, .d (.int .i64 v0)), (7, .d (.int .i64 v1)), (9, .d (.int .i64 v2)), (11, .d (.int .i64 v3)), (13, .d (.int .i64 4))], [some (tlvK p0 p1 p2 p3 x6 x7), some zeroM], []⟩) :
    if k4.isB && k5.isB && k6.isB then
      iter (ev C F c) 2 [1, 2, 5, 7, 9, 11, 13] [1, 2, 3, 5, 7, 9, 11] (k + 4) st = some (.exit 0, ⟨[(1, .ptr 0 0), (2, .ptr 1 0), (5, .d (.int .i64 v0)), (7, .d (.int .i64 v1)), (9, .d (.int .i64 v2)), (11, .d (.int .i64 v3))], [some (tlvK p0 p1 p2 p3 x6 x7), some zeroM], []⟩)
    else ∃ st', iter (ev C F c) 2 [1, 2, 5, 7, 9, 11, 13] [1, 2, 3, 5, 7, 9, 11] (k + 4) st = some (.ret, st') ∧ finish C Tryd.f22.results.toList (some (.ret, st')) = some ⟨[.d zeroMD, .d (.bool false)], []⟩ := by
  have htt : C.tt = (envG G).tt := by rw [← hC]; rfl
  have hlin : C.lin = [] := by rw [← hC]; rfl
  have hreg : C.reg = reg22 := by rw [← hC]; rfl
  have hcall : C.call = callN (envG G) F (m) := by rw [← hC]; rfl
  have hcallP : C.callP = callP (envG G) F (m) := by rw [← hC]; rfl
  have hlv_11 : C.live 11 = [1, 2, 5, 7, 9, 11, 13] := by rw [← hC]; rfl
  have hlv_100011 : C.live 100011 = [1, 2, 3, 5, 7, 9, 11] := by rw [← hC]; rfl
  have hlv_200016 : C.live 200016 = [] := by rw [← hC]; rfl
  have hlv_200017 : C.live 200017 = [2, 7, 13, 17] := by rw [← hC]; rfl
  have hlv_300017 : C.live 300017 = [2] := by rw [← hC]; rfl
  have hev : ∀ st, ev C F c st = ev C F ((loopAt 11 Tryd.f22).getD .skip) st := fun st => by rw [hc]; rfl
  have r4 : (Tlv.cellsL x7)[4]? = some k4.cells := by rw [cellsL_map, List.getElem?_map, h4]; rfl
  have r5 : (Tlv.cellsL x7)[5]? = some k5.cells := by rw [cellsL_map, List.getElem?_map, h5]; rfl
  have r6 : (Tlv.cellsL x7)[6]? = some k6.cells := by rw [cellsL_map, List.getElem?_map, h6]; rfl
  clear h4 h5 h6
  unfold zeroM tlvK at *
  unfold zeroMD
  obtain ⟨a1, a2, a3, a4, a5, a6, a7⟩ := k4
  obtain ⟨e1, e2, e3, e4, e5, e6, e7⟩ := k5
  obtain ⟨d1, d2, d3, d4, d5, d6, d7⟩ := k6
  simp only [Tlv.cells] at r4 r5 r6
  simp only [Tlv.isB]
  rw [iter_eq, hst, hev]
  by_cases c1 : a1 = 0
  case neg => simp [loopAt, findLoop, Tryd.f22, htt, hlin, hreg, reg22, hcall, hcallP, hlv_11, hlv_100011, hlv_200016, hlv_200017, hlv_300017, r4, c1]
  by_cases c2 : a2 = 4
  case neg => simp [loopAt, findLoop, Tryd.f22, htt, hlin, hreg, reg22, hcall, hcallP, hlv_11, hlv_100011, hlv_200016, hlv_200017, hlv_300017, r4, c1, c2]
  cases a3
  case true => simp [loopAt, findLoop, Tryd.f22, htt, hlin, hreg, reg22, hcall, hcallP, hlv_11, hlv_100011, hlv_200016, hlv_200017, hlv_300017, r4, c1, c2]
  simp [loopAt, findLoop, Tryd.f22, htt, hlin, hreg, reg22, hcall, hcallP, hlv_11, hlv_100011, hlv_200016, hlv_200017, hlv_300017, r4, c1, c2]
  rw [iter_eq, hev]
  by_cases c3 : e1 = 0
  case neg => simp [loopAt, findLoop, Tryd.f22, htt, hlin, hreg, reg22, hcall, hcallP, hlv_11, hlv_100011, hlv_200016, hlv_200017, hlv_300017, r5, c3]
  by_cases c4 : e2 = 4
  case neg => simp [loopAt, findLoop, Tryd.f22, htt, hlin, hreg, reg22, hcall, hcallP, hlv_11, hlv_100011, hlv_200016, hlv_200017, hlv_300017, r5, c3, c4]
  cases e3
  case true => simp [loopAt, findLoop, Tryd.f22, htt, hlin, hreg, reg22, hcall, hcallP, hlv_11, hlv_100011, hlv_200016, hlv_200017, hlv_300017, r5, c3, c4]
  simp [loopAt, findLoop, Tryd.f22, htt, hlin, hreg, reg22, hcall, hcallP, hlv_11, hlv_100011, hlv_200016, hlv_200017, hlv_300017, r5, c3, c4]
  rw [iter_eq, hev]
  by_cases c5 : d1 = 0
  case neg => simp [loopAt, findLoop, Tryd.f22, htt, hlin, hreg, reg22, hcall, hcallP, hlv_11, hlv_100011, hlv_200016, hlv_200017, hlv_300017, r6, c5]
  by_cases c6 : d2 = 4
  case neg => simp [loopAt, findLoop, Tryd.f22, htt, hlin, hreg, reg22, hcall, hcallP, hlv_11, hlv_100011, hlv_200016, hlv_200017, hlv_300017, r6, c5, c6]
  cases d3
  case true => simp [loopAt, findLoop, Tryd.f22, htt, hlin, hreg, reg22, hcall, hcallP, hlv_11, hlv_100011, hlv_200016, hlv_200017, hlv_300017, r6, c5, c6]
  simp [loopAt, findLoop, Tryd.f22, htt, hlin, hreg, reg22, hcall, hcallP, hlv_11, hlv_100011, hlv_200016, hlv_200017, hlv_300017, r6, c5, c6]
  rw [iter_eq, hev]
  simp [loopAt, findLoop, Tryd.f22, htt, hlin, hreg, reg22, hcall, hcallP, hlv_11, hlv_100011, hlv_200016, hlv_200017, hlv_300017, r6, c5, c6]

def manD (a b c d : Int) (x y z : D) : D := .agg [.int .i64 a, .int .i64 b, .int .i64 c, .int .i64 d, x, y, z]

theorem body_nums (x : Tlv) : ∃ bn b, x.bodyD = .nums .u8 bn b ∧ x.body = b := by
  obtain ⟨x1, x2, x3, x4, x5, x6, x7⟩ := x
  exact ⟨x4, x5, rfl, rfl⟩
theorem cells_body (x : Tlv) : ∃ a b c d, x.cells = [a, b, c, x.bodyD, d] := by
  obtain ⟨x1, x2, x3, x4, x5, x6, x7⟩ := x
  exact ⟨_, _, _, _, rfl⟩

theorem t_read (F : Nat) (hF : 1048580 < F) (n : Nat) (x : Tlv) (hk : ∀ y ∈ x.kids, y.plainOk) :
    ∃ a b c d n1 w1 n2 w2 n3 w3, callN (envG G) F (n + 10) 22 [.d (.agg x.cells)] = some ⟨[.d (manD a b c d (.nums .u8 n1 w1) (.nums .u8 n2 w2) (.nums .u8 n3 w3)), .d (.bool x.man.isSome)], []⟩ ∧
      (∀ m, x.man = some m → m = manD a b c d (.nums .u8 n1 w1) (.nums .u8 n2 w2) (.nums .u8 n3 w3)) := by
  obtain ⟨x1, x2, x3, x4, x5, x6, x7⟩ := x
  simp only [Tlv.kids] at hk
  have hl : ∀ x1 x2 x3 x4 x5 x6 x7, callN (envG G) F (n + 9) _ _ = _ := fun x1 x2 x3 x4 x5 x6 x7 => t_r16IsList (G := G) F (n + 8) x1 x2 x3 x4 x5 x6 x7
  have hl' := hl x1 x2 x3 x4 x5 x6 x7
  simp only [Tlv.cells]
  have hcl := cellsL_len x7
  by_cases h : x1 = 0 ∧ x2 = 16 ∧ x3 = true ∧ x7.length = 7
  case neg =>
    rw [man_none h]
    refine ⟨0, 0, 0, 0, true, [], true, [], true, [], ?_, fun m h => by cases h⟩
    rw [callN_run (fn := Tryd.f22) rfl rfl rfl (by simp [Tryd.ntmps22])]
    generalize hC : (envG G).ctx 22 (callN (envG G) F (n+9)) (callP (envG G) F (n+9)) = C
    have htt : C.tt = (envG G).tt := by rw [← hC]; rfl
    have hlin : C.lin = [] := by rw [← hC]; rfl
    have hreg : C.reg = reg22 := by rw [← hC]; rfl
    have hcall : C.call = callN (envG G) F (n+9) := by rw [← hC]; rfl
    have hcallP : C.callP = callP (envG G) F (n+9) := by rw [← hC]; rfl
    have hlv_11 : C.live 11 = [1, 2, 5, 7, 9, 11, 13] := by rw [← hC]; rfl
    have hlv_100011 : C.live 100011 = [1, 2, 3, 5, 7, 9, 11] := by rw [← hC]; rfl
    have hlv_200016 : C.live 200016 = [] := by rw [← hC]; rfl
    have hlv_200017 : C.live 200017 = [2, 7, 13, 17] := by rw [← hC]; rfl
    have hlv_300017 : C.live 300017 = [2] := by rw [← hC]; rfl
    unfold manD
    by_cases h1 : x1 = 0 ∧ x2 = 16 ∧ x3 = true
    · have h2 : ¬ (x7.length : Int) = 7 := fun h2 => h ⟨h1.1, h1.2.1, h1.2.2, by omega⟩
      rw [decide_eq_true h1] at hl'
      simp [htt, hlin, hreg, reg22, hcall, hcallP, hlv_11, hlv_100011, hlv_200016, hlv_200017, hlv_300017, hl', hcl, h2]
    · rw [decide_eq_false h1] at hl'
      simp [htt, hlin, hreg, reg22, hcall, hcallP, hlv_11, hlv_100011, hlv_200016, hlv_200017, hlv_300017, hl']
  case pos =>
    obtain ⟨rfl, rfl, rfl, h7⟩ := h
    rw [decide_eq_true ⟨rfl, rfl, rfl⟩] at hl'
    have h7' : (x7.length : Int) = 7 := by omega
    obtain ⟨k0, k1, k2, k3, k4, k5, k6, hx7⟩ := seven_of h7
    obtain ⟨v0, g0, w0⟩ := t_r16Small' (G := G) F (n + 6) (by omega) k0 (hk k0 (by simp [hx7]))
    obtain ⟨v1, g1, w1⟩ := t_r16Small' (G := G) F (n + 6) (by omega) k1 (hk k1 (by simp [hx7]))
    obtain ⟨v2, g2, w2⟩ := t_r16Small' (G := G) F (n + 6) (by omega) k2 (hk k2 (by simp [hx7]))
    obtain ⟨v3, g3, w3⟩ := t_r16Small' (G := G) F (n + 6) (by omega) k3 (hk k3 (by simp [hx7]))
    obtain ⟨n4, b4, q4, s4⟩ := body_nums k4
    obtain ⟨n5, b5, q5, s5⟩ := body_nums k5
    obtain ⟨n6, b6, q6, s6⟩ := body_nums k6
    have hman : Tlv.man (.mk 0 16 true x4 x5 x6 x7) = if (k0.isSmall && k1.isSmall && k2.isSmall && k3.isSmall) = true ∧ (k4.isB && k5.isB && k6.isB) = true ∧ (decide (b4.length = 12) && decide (b5.length = 145) && decide (b6.length = 48)) = true then
        some (manD v0 v1 v2 v3 (.nums .u8 n4 b4) (.nums .u8 n5 b5) (.nums .u8 n6 b6)) else none := by
      rw [hx7]
      unfold Tlv.man manD
      simp only [isBytes_eq, s4, s5, s6, q4, q5, q6]
      by_cases hs : (k0.isSmall && k1.isSmall && k2.isSmall && k3.isSmall) = true
      · have hs' := hs
        simp only [Bool.and_eq_true] at hs'
        rw [w0 hs'.1.1.1, w1 hs'.1.1.2, w2 hs'.1.2, w3 hs'.2]
        have hb : (k4.isB && decide (b4.length = 12) && (k5.isB && decide (b5.length = 145)) && (k6.isB && decide (b6.length = 48))) = ((k4.isB && k5.isB && k6.isB) && (decide (b4.length = 12) && decide (b5.length = 145) && decide (b6.length = 48))) := by
          cases k4.isB <;> cases k5.isB <;> cases k6.isB <;> simp
        rw [hb]
        simp [hs]
      · simp [hs]
    have r0 : (Tlv.cellsL x7)[0]? = some k0.cells := by rw [hx7]; rfl
    have r1 : (Tlv.cellsL x7)[1]? = some k1.cells := by rw [hx7]; rfl
    have r2 : (Tlv.cellsL x7)[2]? = some k2.cells := by rw [hx7]; rfl
    have r3 : (Tlv.cellsL x7)[3]? = some k3.cells := by rw [hx7]; rfl
    have r4 : (Tlv.cellsL x7)[4]? = some k4.cells := by rw [hx7]; rfl
    have r5 : (Tlv.cellsL x7)[5]? = some k5.cells := by rw [hx7]; rfl
    have r6 : (Tlv.cellsL x7)[6]? = some k6.cells := by rw [hx7]; rfl
    obtain ⟨i1, i2, i3, i4, f4⟩ := cells_body k4
    obtain ⟨j1, j2, j3, j4, f5⟩ := cells_body k5
    obtain ⟨l1, l2, l3, l4, f6⟩ := cells_body k6
    rw [f4, q4] at r4
    rw [f5, q5] at r5
    rw [f6, q6] at r6
    refine ⟨if (k0.isSmall && k1.isSmall && k2.isSmall && k3.isSmall) && (k4.isB && k5.isB && k6.isB) then v0 else 0, if (k0.isSmall && k1.isSmall && k2.isSmall && k3.isSmall) && (k4.isB && k5.isB && k6.isB) then v1 else 0,
      if (k0.isSmall && k1.isSmall && k2.isSmall && k3.isSmall) && (k4.isB && k5.isB && k6.isB) then v2 else 0, if (k0.isSmall && k1.isSmall && k2.isSmall && k3.isSmall) && (k4.isB && k5.isB && k6.isB) then v3 else 0,
      if (k0.isSmall && k1.isSmall && k2.isSmall && k3.isSmall) && (k4.isB && k5.isB && k6.isB) then n4 else true, if (k0.isSmall && k1.isSmall && k2.isSmall && k3.isSmall) && (k4.isB && k5.isB && k6.isB) then b4 else [],
      if (k0.isSmall && k1.isSmall && k2.isSmall && k3.isSmall) && (k4.isB && k5.isB && k6.isB) then n5 else true, if (k0.isSmall && k1.isSmall && k2.isSmall && k3.isSmall) && (k4.isB && k5.isB && k6.isB) then b5 else [],
      if (k0.isSmall && k1.isSmall && k2.isSmall && k3.isSmall) && (k4.isB && k5.isB && k6.isB) then n6 else true, if (k0.isSmall && k1.isSmall && k2.isSmall && k3.isSmall) && (k4.isB && k5.isB && k6.isB) then b6 else [], ?_, ?_⟩
    · rw [hman]
      clear hman
      rw [callN_run (fn := Tryd.f22) rfl rfl rfl (by simp [Tryd.ntmps22])]
      generalize hC : (envG G).ctx 22 (callN (envG G) F (n+9)) (callP (envG G) F (n+9)) = C
      have htt : C.tt = (envG G).tt := by rw [← hC]; rfl
      have hlin : C.lin = [] := by rw [← hC]; rfl
      have hreg : C.reg = reg22 := by rw [← hC]; rfl
      have hcall : C.call = callN (envG G) F (n+9) := by rw [← hC]; rfl
      have hcallP : C.callP = callP (envG G) F (n+9) := by rw [← hC]; rfl
      have hlv_11 : C.live 11 = [1, 2, 5, 7, 9, 11, 13] := by rw [← hC]; rfl
      have hlv_100011 : C.live 100011 = [1, 2, 3, 5, 7, 9, 11] := by rw [← hC]; rfl
      have hlv_200016 : C.live 200016 = [] := by rw [← hC]; rfl
      have hlv_200017 : C.live 200017 = [2, 7, 13, 17] := by rw [← hC]; rfl
      have hlv_300017 : C.live 300017 = [2] := by rw [← hC]; rfl
      have hL := fun st h => by
        have hq := loop_read (G := G) hC rfl (.int .i64 0) (.int .i64 16) (.bool true) (.nums .u8 x4 x5) x6 x7 k4 k5 k6 v0 v1 v2 v3 (by simp [hx7]) (by simp [hx7]) (by simp [hx7]) (F - 4) st h
        rw [show F - 4 + 4 = F by omega] at hq
        exact hq
      clear hC hk hx7 w0 w1 w2 w3
      unfold zeroM tlvK zeroMD at hL
      unfold manD
      generalize hs0 : k0.isSmall = e0 at *
      generalize hs1 : k1.isSmall = e1 at *
      generalize hs2 : k2.isSmall = e2 at *
      generalize hs3 : k3.isSmall = e3 at *
      obtain ⟨t1, t2, t3, t4, t5, t6, t7⟩ := k0
      obtain ⟨u1, u2, u3, u4, u5, u6, u7⟩ := k1
      obtain ⟨y1, y2, y3, y4, y5, y6, y7⟩ := k2
      obtain ⟨z1, z2, z3, z4, z5, z6, z7⟩ := k3
      simp only [Tlv.cells] at r0 r1 r2 r3 g0 g1 g2 g3
      clear hs0 hs1 hs2 hs3
      generalize (k4.isB && k5.isB && k6.isB) = u at *
      cases e0
      case false => simp [htt, hlin, hreg, reg22, hcall, hcallP, hlv_11, hlv_100011, hlv_200016, hlv_200017, hlv_300017, hl', hcl, h7', r0, r1, r2, r3, g0, g1, g2, g3]
      cases e1
      case false => simp [htt, hlin, hreg, reg22, hcall, hcallP, hlv_11, hlv_100011, hlv_200016, hlv_200017, hlv_300017, hl', hcl, h7', r0, r1, r2, r3, g0, g1, g2, g3]
      cases e2
      case false => simp [htt, hlin, hreg, reg22, hcall, hcallP, hlv_11, hlv_100011, hlv_200016, hlv_200017, hlv_300017, hl', hcl, h7', r0, r1, r2, r3, g0, g1, g2, g3]
      cases e3
      case false => simp [htt, hlin, hreg, reg22, hcall, hcallP, hlv_11, hlv_100011, hlv_200016, hlv_200017, hlv_300017, hl', hcl, h7', r0, r1, r2, r3, g0, g1, g2, g3]
      cases u with
      | false =>
        simp only [Bool.false_eq_true, if_false] at hL
        have hL2 := fun st h => Classical.choose_spec (hL st h)
        simp [Tryd.f22, htt, hlin, hreg, reg22, hcall, hcallP, hlv_11, hlv_100011, hlv_200016, hlv_200017, hlv_300017] at hL2
        simp [htt, hlin, hreg, reg22, hcall, hcallP, hlv_11, hlv_100011, hlv_200016, hlv_200017, hlv_300017, hl', hcl, h7', r0, r1, r2, r3, g0, g1, g2, g3, ev_loop]
        rw [(hL2 _ (by simp)).1]
        simp [htt, hlin, hreg, reg22, hcall, hcallP, hlv_11, hlv_100011, hlv_200016, hlv_200017, hlv_300017]
        exact (hL2 _ (by simp)).2
      | true =>
        simp only [if_true] at hL
        simp [htt, hlin, hreg, reg22, hcall, hcallP, hlv_11, hlv_100011, hlv_200016, hlv_200017, hlv_300017, hl', hcl, h7', r0, r1, r2, r3, g0, g1, g2, g3, ev_loop]
        rw [hL _ (by simp)]
        by_cases m4 : b4.length = 12
        · have m4' : (b4.length : Int) = 12 := by omega
          by_cases m5 : b5.length = 145
          · have m5' : (b5.length : Int) = 145 := by omega
            by_cases m6 : b6.length = 48
            · have m6' : (b6.length : Int) = 48 := by omega
              simp [htt, hlin, hreg, reg22, hcall, hcallP, hlv_11, hlv_100011, hlv_200016, hlv_200017, hlv_300017, r4, r5, r6, m4, m5, m6, m4', m5', m6']
            · have m6' : ¬ (b6.length : Int) = 48 := by omega
              simp [htt, hlin, hreg, reg22, hcall, hcallP, hlv_11, hlv_100011, hlv_200016, hlv_200017, hlv_300017, r4, r5, r6, m4, m5, m6, m4', m5', m6']
          · have m5' : ¬ (b5.length : Int) = 145 := by omega
            simp [htt, hlin, hreg, reg22, hcall, hcallP, hlv_11, hlv_100011, hlv_200016, hlv_200017, hlv_300017, r4, r5, r6, m4, m5, m4', m5']
        · have m4' : ¬ (b4.length : Int) = 12 := by omega
          simp [htt, hlin, hreg, reg22, hcall, hcallP, hlv_11, hlv_100011, hlv_200016, hlv_200017, hlv_300017, r4, r5, r6, m4, m4']
    · intro m hm
      rw [hman] at hm
      split at hm
      · rename_i hc
        rw [hc.1, hc.2.1]
        injection hm with hm
        exact hm.symm
      · cases hm
end Go.Proofs.YtjmcgdhekjkjfaaDoor

/- errors.As at a target that is the address of a *api.Spot. -/
set_option linter.unusedSimpArgs false
set_option linter.unusedVariables false
namespace Go.Proofs.YtjmcgdhekjkjfaaDoor
open Go.RowKit Go.Extern.Stop Go.Stop Go.Extern

/-- errors.As(nil, target). -/
theorem as_nil (t : Value) (w : World) :
    Calls Tryd.prog 59 #[.nilIface, t] w fun e w' => e = .returned (.bool false) ∧ w' = w := by
  go_enter Tryd.func59, Tryd.ntmps59
  go_wp2
  go_ret
  exact ⟨rfl, rfl⟩

theorem As.valueOf27 (t : Addr) (w : World) : (ReflectliteValue.unpack (.iface 107 (.pointer (some t)))).run Tryd.prog w
    = .ok (.agg #[.pointer (some ⟨8, 107, none⟩), .pointer (some ⟨w.heap.size, 0, none⟩), .int .u64 150]) (w.alloc (.cells #[.pointer (some t)] 107)) := by kernel_rfl
theorem As.type27 (a : Addr) (w : World) : (ReflectliteValue.methodAny (ReflectliteValue.valueError "reflectlite.Value.Type" 0) (fun t _ _ _ => ReflectliteType.toType t) #[.agg #[.pointer (some ⟨8, 107, none⟩), .pointer (some a), .int .u64 150]]).run Tryd.prog w
    = .ok (.iface 189 (.agg #[.pointer (some ⟨8, 107, none⟩)])) w := by kernel_rfl
theorem As.methodKind (h : Value) (w : World) : (Go.method 342 189 (.agg #[h]) "Kind").run Tryd.prog w = .ok (163, h) w := by kernel_rfl
theorem As.kind27 (w : World) : ((ReflectliteType.abiMethod fun t => (fun a : Nat => Value.int IntKind.u8 (a : Int)) <$> Rtype.kind t) #[.pointer (some ⟨8, 107, none⟩)]).run Tryd.prog w = .ok (.int .u8 22) w := by kernel_rfl
theorem As.kind25 (w : World) : ((ReflectliteType.abiMethod fun t => (fun a : Nat => Value.int IntKind.u8 (a : Int)) <$> Rtype.kind t) #[.pointer (some ⟨8, 105, none⟩)]).run Tryd.prog w = .ok (.int .u8 22) w := by kernel_rfl

theorem rlm (z : Sem Value) (f : TypeId → Addr → Nat → Nat → Sem Value) (v : Value) :
    ReflectliteValue.method z f #[v] = (do match ← ReflectliteValue.parts v with | none => z | some (t, a, fl) => f t a fl (fl % 32)) := rfl
theorem As.parts27 (a : Addr) (w : World) : (ReflectliteValue.parts (.agg #[.pointer (some ⟨8, 107, none⟩), .pointer (some a), .int .u64 150])).run Tryd.prog w = .ok (some (107, a, 150)) w := by kernel_rfl
/-- (Value).IsNil at the Value of a **p.E that is not nil. -/
theorem As.isNil27 (a p : Addr) (W : World) (ha : W.cell? a = some (.pointer (some p))) :
    (ReflectliteValue.method (ReflectliteValue.valueError "reflectlite.Value.IsNil" 0) ReflectliteValue.isNil #[.agg #[.pointer (some ⟨8, 107, none⟩), .pointer (some a), .int .u64 150]]).run Tryd.prog W = .ok (.bool false) W := by
  rw [rlm]
  simp only [Sem.run_bind, As.parts27, Result.andThen]
  simp [ReflectliteValue.isNil, loadVar, isAgg, underlying, Tryd.underlying107, ha, Result.andThen]

theorem As.methodElem (h : Value) (w : World) : (Go.method 342 189 (.agg #[h]) "Elem").run Tryd.prog w = .ok (175, .agg #[h]) w := by kernel_rfl
theorem As.methodImplements (h : Value) (w : World) : (Go.method 342 189 (.agg #[h]) "Implements").run Tryd.prog w = .ok (176, .agg #[h]) w := by kernel_rfl
theorem As.methodAssignableTo (h : Value) (w : World) : (Go.method 342 189 (.agg #[h]) "AssignableTo").run Tryd.prog w = .ok (173, .agg #[h]) w := by kernel_rfl
theorem As.elem27 (w : World) : (ReflectliteType.method ReflectliteType.elem #[.agg #[.pointer (some ⟨8, 107, none⟩)]]).run Tryd.prog w = .ok (.iface 189 (.agg #[.pointer (some ⟨8, 105, none⟩)])) w := by kernel_rfl
theorem As.implements25 (w : World) : (ReflectliteType.relation "Implements" ReflectliteType.implements_ #[.agg #[.pointer (some ⟨8, 105, none⟩)], .iface 189 (.agg #[.pointer (some ⟨8, 28, none⟩)])]).run Tryd.prog w = .ok (.bool true) w := by kernel_rfl
theorem As.typeOf25 (v : Value) (w : World) : (ReflectliteType.typeOf #[.iface 105 v]).run Tryd.prog w = .ok (.iface 189 (.agg #[.pointer (some ⟨8, 105, none⟩)])) w := by kernel_rfl
theorem As.assignable25 (w : World) : (ReflectliteType.relation "AssignableTo" ReflectliteType.assignableTo #[.agg #[.pointer (some ⟨8, 105, none⟩)], .iface 189 (.agg #[.pointer (some ⟨8, 105, none⟩)])]).run Tryd.prog w = .ok (.bool true) w := by kernel_rfl
theorem As.valueOf25 (e : Addr) (w : World) : (ReflectliteValue.unpack (.iface 105 (.pointer (some e)))).run Tryd.prog w
    = .ok (.agg #[.pointer (some ⟨8, 105, none⟩), .pointer (some ⟨w.heap.size, 0, none⟩), .int .u64 150]) (w.alloc (.cells #[.pointer (some e)] 105)) := by kernel_rfl

theorem As.elemOf27 (w : World) : (Rtype.elem? 107).run Tryd.prog w = .ok (some 105) w := by kernel_rfl
theorem As.mk25 (p : Addr) (w : World) : (ReflectliteValue.mk 105 p ReflectliteValue.flagAddr).run Tryd.prog w = .ok (.agg #[.pointer (some ⟨8, 105, none⟩), .pointer (some p), .int .u64 406]) w := by kernel_rfl
/-- (Value).Elem at the Value of a **p.E that is not nil: the Value of the *p.E variable that it points to, addressable. -/
theorem As.elemV27 (a p : Addr) (W : World) (ha : W.cell? a = some (.pointer (some p))) :
    (ReflectliteValue.method (ReflectliteValue.valueError "reflectlite.Value.Elem" 0) ReflectliteValue.elem #[.agg #[.pointer (some ⟨8, 107, none⟩), .pointer (some a), .int .u64 150]]).run Tryd.prog W
      = .ok (.agg #[.pointer (some ⟨8, 105, none⟩), .pointer (some p), .int .u64 406]) W := by
  rw [rlm]
  simp only [Sem.run_bind, As.parts27, Result.andThen]
  simp [ReflectliteValue.elem, loadVar, isAgg, underlying, Tryd.underlying107, ha, Result.andThen, As.elemOf27, As.mk25]
theorem rls (v x : Value) : ReflectliteValue.set #[v, x] = (do
    let (some (dst, a, fl), some (src, b, _)) := (← ReflectliteValue.parts v, ← ReflectliteValue.parts x)
      | unsupported (.noEntry "extern/(internal/reflectlite.Value).Set.zeroValue")
    if fl / ReflectliteValue.flagAddr % 2 == 0 then unsupported (.noEntry "extern/(internal/reflectlite.Value).Set.unaddressable")
    let val ← loadVar src b
    if ← Rtype.directlyAssignable dst src then storeVar dst a val
    else if ← Rtype.implements dst src then
      if (← Rtype.kind src) == 20 then
        match val with
        | .nilIface => unsupported (.noEntry "extern/reflectlite: a nil value of one interface type handed on as a value of another")
        | _ => storeVar dst a val
      else storeVar dst a (.iface src val)
    else panicString ("reflectlite.Set: value of type " ++ (← Rtype.spelt src) ++ " is not assignable to type " ++ (← Rtype.spelt dst))
    pure (.tuple #[])) := rfl
theorem As.parts25a (a : Addr) (w : World) : (ReflectliteValue.parts (.agg #[.pointer (some ⟨8, 105, none⟩), .pointer (some a), .int .u64 406])).run Tryd.prog w = .ok (some (105, a, 406)) w := by kernel_rfl
theorem As.parts25 (a : Addr) (w : World) : (ReflectliteValue.parts (.agg #[.pointer (some ⟨8, 105, none⟩), .pointer (some a), .int .u64 150])).run Tryd.prog w = .ok (some (105, a, 150)) w := by kernel_rfl
theorem As.direct25 (w : World) : (Rtype.directlyAssignable 105 105).run Tryd.prog w = .ok true w := by kernel_rfl
theorem As.size25 (w : World) : (sizeOf 105).run Tryd.prog w = .ok 1 w := by kernel_rfl
/-- (Value).Set: the *p.E variable at 'ta' gets what the Value's own variable 'b' holds. -/
theorem As.set25 (ta b e : Addr) (old : Value) (W : World) (hb : W.cell? b = some (.pointer (some e))) (ht : W.cell? ta = some old) (hf : W.frozen? ta = false) :
    (ReflectliteValue.set #[.agg #[.pointer (some ⟨8, 105, none⟩), .pointer (some ta), .int .u64 406], .agg #[.pointer (some ⟨8, 105, none⟩), .pointer (some b), .int .u64 150]]).run Tryd.prog W
      = .ok (.tuple #[]) (W.setCell ta (.pointer (some e))) := by
  rw [rls]
  simp only [Sem.run_bind, As.parts25a, As.parts25, Result.andThen]
  simp [ReflectliteValue.flagAddr, loadVar, isAgg, underlying, Tryd.underlying105, hb, Result.andThen, As.direct25, storeVar, Value.cells, storeCells, Addr.add]
  rw [run_store Tryd.prog W ta _ _ (by rfl)]
  simp [ht, hf]

set_option maxHeartbeats 4000000 in
theorem as_hit (e t : Addr) (old : Value) (w : World) (hg : w.cell? ⟨1, 0, none⟩ = some (.iface 189 (.agg #[.pointer (some ⟨8, 28, none⟩)]))) (ht0 : w.cell? t = some old) (hf0 : w.frozen? t = false) :
    Calls Tryd.prog 59 #[.iface 105 (.pointer (some e)), .iface 107 (.pointer (some t))] w fun ev w' => ev = .returned (.bool true) ∧ w' = ((((w.alloc (.cells #[.pointer (some t)] 107)).alloc (.cells #[.pointer (some ⟨8, 107, none⟩), .pointer (some ⟨w.heap.size, 0, none⟩), .int .u64 150] 158)).alloc (.cells #[.pointer (some ⟨8, 107, none⟩), .pointer (some ⟨w.heap.size, 0, none⟩), .int .u64 150] 158)).alloc (.cells #[.pointer (some e)] 105)).setCell t (.pointer (some e)) := by
  have h6 := @run_callFunc_extern Tryd.prog 99 _ (fun args => ReflectliteValue.unpack (args.getD 0 (.tuple #[]))) Tryd.func99 (by kernel_rfl) (by kernel_rfl) (by kernel_rfl) (by kernel_rfl)
  have h7 := @run_callFunc_extern Tryd.prog 100 _ (ReflectliteValue.methodAny (ReflectliteValue.valueError "reflectlite.Value.Type" 0) (fun t _ _ _ => ReflectliteType.toType t)) Tryd.func100 (by kernel_rfl) (by kernel_rfl) (by kernel_rfl) (by kernel_rfl)
  have h8 := @run_callFunc_extern Tryd.prog 101 _ (ReflectliteValue.method (ReflectliteValue.valueError "reflectlite.Value.IsNil" 0) ReflectliteValue.isNil) Tryd.func101 (by kernel_rfl) (by kernel_rfl) (by kernel_rfl) (by kernel_rfl)
  have h27 := @run_callFunc_extern Tryd.prog 163 _ (ReflectliteType.abiMethod fun t => do pure (.int .u8 (← Rtype.kind t))) Tryd.func163 (by kernel_rfl) (by kernel_rfl) (by kernel_rfl) (by kernel_rfl)
  have h37 := @run_callFunc_extern Tryd.prog 175 _ (ReflectliteType.method ReflectliteType.elem) Tryd.func175 (by kernel_rfl) (by kernel_rfl) (by kernel_rfl) (by kernel_rfl)
  have h38 := @run_callFunc_extern Tryd.prog 176 _ (ReflectliteType.relation "Implements" ReflectliteType.implements_) Tryd.func176 (by kernel_rfl) (by kernel_rfl) (by kernel_rfl) (by kernel_rfl)
  have h10 := @run_callFunc_extern Tryd.prog 103 _ ReflectliteType.typeOf Tryd.func103 (by kernel_rfl) (by kernel_rfl) (by kernel_rfl) (by kernel_rfl)
  have h35 := @run_callFunc_extern Tryd.prog 173 _ (ReflectliteType.relation "AssignableTo" ReflectliteType.assignableTo) Tryd.func173 (by kernel_rfl) (by kernel_rfl) (by kernel_rfl) (by kernel_rfl)
  have h11 := @run_callFunc_extern Tryd.prog 130 _ (ReflectliteValue.method (ReflectliteValue.valueError "reflectlite.Value.Elem" 0) ReflectliteValue.elem) Tryd.func130 (by kernel_rfl) (by kernel_rfl) (by kernel_rfl) (by kernel_rfl)
  have h12 := @run_callFunc_extern Tryd.prog 131 _ ReflectliteValue.set Tryd.func131 (by kernel_rfl) (by kernel_rfl) (by kernel_rfl) (by kernel_rfl)
  have tO := As.typeOf25
  have mA := As.methodAssignableTo
  have a25 := As.assignable25
  have v25 := As.valueOf25
  have f6 := As.valueOf27
  have f7 := As.type27
  have mK := As.methodKind
  have mE := As.methodElem
  have mI := As.methodImplements
  have k27 := As.kind27
  have k25 := As.kind25
  have e27 := As.elem27
  have i25 := As.implements25
  have n8 := As.isNil27 ⟨w.heap.size, 0, none⟩ t ((w.alloc (.cells #[.pointer (some t)] 107)).alloc (.cells #[.pointer (some ⟨8, 107, none⟩), .pointer (some ⟨w.heap.size, 0, none⟩), .int .u64 150] 158)) (by simp)
  have hlt : 1 < w.heap.size := by
    rcases Nat.lt_or_ge 1 w.heap.size with h | h0
    · exact h
    · simp [World.cell?, Array.getElem?_eq_none h0] at hg
  have hg2 : ((w.alloc (.cells #[.pointer (some t)] 107)).alloc (.cells #[.pointer (some ⟨8, 107, none⟩), .pointer (some ⟨w.heap.size, 0, none⟩), .int .u64 150] 158)).cell? ⟨1, 0, none⟩ = some (.iface 189 (.agg #[.pointer (some ⟨8, 28, none⟩)])) := by
    rw [World.cell?_alloc_lt _ _ ⟨1, 0, none⟩ (by simp; omega), World.cell?_alloc_lt _ _ ⟨1, 0, none⟩ hlt]; exact hg
  have htl : t.block < w.heap.size := by
    rcases Nat.lt_or_ge t.block w.heap.size with h | h
    · exact h
    · simp [World.cell?, Array.getElem?_eq_none h] at ht0
  have el := As.elemV27 ⟨w.heap.size, 0, none⟩ t (((w.alloc (.cells #[.pointer (some t)] 107)).alloc (.cells #[.pointer (some ⟨8, 107, none⟩), .pointer (some ⟨w.heap.size, 0, none⟩), .int .u64 150] 158)).alloc (.cells #[.pointer (some ⟨8, 107, none⟩), .pointer (some ⟨w.heap.size, 0, none⟩), .int .u64 150] 158)) (by rw [World.cell?_alloc_lt _ _ ⟨w.heap.size, 0, none⟩ (by simp; omega)]; simp)
  have st := As.set25 t ⟨w.heap.size + 1 + 1 + 1, 0, none⟩ e old ((((w.alloc (.cells #[.pointer (some t)] 107)).alloc (.cells #[.pointer (some ⟨8, 107, none⟩), .pointer (some ⟨w.heap.size, 0, none⟩), .int .u64 150] 158)).alloc (.cells #[.pointer (some ⟨8, 107, none⟩), .pointer (some ⟨w.heap.size, 0, none⟩), .int .u64 150] 158)).alloc (.cells #[.pointer (some e)] 105))
    (by rw [World.cell?_alloc_at _ _ _ _ (by simp)]; rfl)
    (by rw [World.cell?_alloc_lt _ _ t (by simp; omega), World.cell?_alloc_lt _ _ t (by simp; omega), World.cell?_alloc_lt _ _ t (by simp; omega), World.cell?_alloc_lt _ _ t htl]; exact ht0)
    (by rw [World.frozen?_alloc_old _ _ t (by simp; omega), World.frozen?_alloc_old _ _ t (by simp; omega), World.frozen?_alloc_old _ _ t (by simp; omega), World.frozen?_alloc_old _ _ t (Nat.ne_of_lt htl)]; exact hf0)
  go_enter Tryd.func59, Tryd.ntmps59
  go_wp2
  refine wp_loop_rounds 1 ?_
  rw [rounds_succ]
  go_wp2
  go_ret
  exact ⟨rfl, rfl⟩
end Go.Proofs.YtjmcgdhekjkjfaaDoor
