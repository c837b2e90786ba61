/- Bits of which all count: elem.BitsOf, ref16.Bits. -/
import Derived.Test.YtjmcgdhekjkjfaaGreatDoorSG
import Derived.Test.YtjmcgdhekjkjfaaGreatDoorSI
import Derived.Test.YtjmcgdhekjkjfaaGreatDoorSF
import Derived.Test.YtjmcgdhekjkjfaaGreatDoorSC
set_option linter.unusedSimpArgs false
set_option linter.unusedVariables false
namespace Go.Proofs.YtjmcgdhekjkjfaaGreatDoor
open Go Go.VM
variable {G : GE}
set_option maxRecDepth 100000
set_option maxHeartbeats 4000000
def Tlv.bits : Tlv → Option (List Int)
  | .mk c t m _ (0 :: b) _ _ => if c = 0 ∧ t = 3 ∧ m = false then some b else none
  | _ => none
theorem t_primBits0 (F n : Nat) (t : List Int) (hl : t.length ≤ 140737488355327) : callN (envG G) F (n+2) 61 [.d (.nums .u8 false (0 :: t))] = some ⟨[.d (.nums .u8 false t), .d (.int .i64 0), .d .nilifc], [0]⟩ := by
  have e0 : ¬ ((t.length : Int) + 1 = 0) := by omega
  have e9 : (0 : Int) < (t.length : Int) + 1 := by omega
  have e8 : (1 : Int) ≤ (t.length : Int) + 1 := by omega
  have kc := t_clone (G := G) F n t (by omega)
  rw [callN_run (fn := Tryz.f61) rfl rfl rfl (by simp [Tryz.ntmps61])]
  generalize hC : (envG G).ctx 61 (callN (envG G) F (n+1)) (callP (envG G) F (n+1)) = C
  have htt : C.tt = (envG G).tt := by rw [← hC]; rfl
  have hlin : C.lin = [] := by rw [← hC]; rfl
  have hreg : C.reg = reg61 := by rw [← hC]; rfl
  have hcall : C.call = callN (envG G) F (n+1) := by rw [← hC]; rfl
  have hcallP : C.callP = callP (envG G) F (n+1) := by rw [← hC]; rfl
  have hlv_200003 : C.live 200003 = [] := by rw [← hC]; rfl
  have hlv_250003 : C.live 250003 = [] := by rw [← hC]; rfl
  have hlv_200004 : C.live 200004 = [] := by rw [← hC]; rfl
  have hlv_250004 : C.live 250004 = [] := by rw [← hC]; rfl
  clear hC
  simp [htt, hlin, hreg, reg61, hcall, hcallP, hlv_200003, hlv_250003, hlv_200004, hlv_250004, e0, e9, e8, kc]
theorem t_primBits1 (F n : Nat) (nl : Bool) (b : List Int) (hnl : nl = true → b = []) (hl : b.length ≤ 140737488355328) (hb : ∀ c ∈ b, 0 ≤ c ∧ c < 256) (h0 : ∀ t, b ≠ 0 :: t) :
    (∃ x, callN (envG G) F (n+2) 61 [.d (.nums .u8 nl b)] = some ⟨[.d (.nums .u8 true []), .d (.int .i64 0), .d (err x)], []⟩) ∨ ∃ ys k, k ≠ 0 ∧ callN (envG G) F (n+2) 61 [.d (.nums .u8 nl b)] = some ⟨[.d (.nums .u8 false ys), .d (.int .i64 k), .d .nilifc], [0]⟩ := by
  cases b with
  | nil =>
    refine .inl ⟨7, ?_⟩
    unfold err
    rw [callN_run (fn := Tryz.f61) rfl rfl rfl (by simp [Tryz.ntmps61])]
    generalize hC : (envG G).ctx 61 (callN (envG G) F (n+1)) (callP (envG G) F (n+1)) = C
    have htt : C.tt = (envG G).tt := by rw [← hC]; rfl
    have hlin : C.lin = [] := by rw [← hC]; rfl
    have hreg : C.reg = reg61 := by rw [← hC]; rfl
    have hcall : C.call = callN (envG G) F (n+1) := by rw [← hC]; rfl
    have hcallP : C.callP = callP (envG G) F (n+1) := by rw [← hC]; rfl
    have hlv_200003 : C.live 200003 = [] := by rw [← hC]; rfl
    have hlv_250003 : C.live 250003 = [] := by rw [← hC]; rfl
    have hlv_200004 : C.live 200004 = [] := by rw [← hC]; rfl
    have hlv_250004 : C.live 250004 = [] := by rw [← hC]; rfl
    clear hC
    simp [htt, hlin, hreg, reg61, hcall, hcallP, hlv_200003, hlv_250003, hlv_200004, hlv_250004]
  | cons x t =>
    have hnf : nl = false := by cases nl with | false => rfl | true => cases hnl rfl
    subst hnf
    have hx := hb x (by simp)
    have hx0 : x ≠ 0 := fun h => h0 t (by rw [h])
    simp only [List.length_cons] at hl
    have e0 : ¬ ((t.length : Int) + 1 = 0) := by omega
    have e9 : (0 : Int) < (t.length : Int) + 1 := by omega
    have e8 : (1 : Int) ≤ (t.length : Int) + 1 := by omega
    by_cases h7 : 7 < x
    · refine .inl ⟨7, ?_⟩
      unfold err
      rw [callN_run (fn := Tryz.f61) rfl rfl rfl (by simp [Tryz.ntmps61])]
      generalize hC : (envG G).ctx 61 (callN (envG G) F (n+1)) (callP (envG G) F (n+1)) = C
      have htt : C.tt = (envG G).tt := by rw [← hC]; rfl
      have hlin : C.lin = [] := by rw [← hC]; rfl
      have hreg : C.reg = reg61 := by rw [← hC]; rfl
      have hcall : C.call = callN (envG G) F (n+1) := by rw [← hC]; rfl
      have hcallP : C.callP = callP (envG G) F (n+1) := by rw [← hC]; rfl
      have hlv_200003 : C.live 200003 = [] := by rw [← hC]; rfl
      have hlv_250003 : C.live 250003 = [] := by rw [← hC]; rfl
      have hlv_200004 : C.live 200004 = [] := by rw [← hC]; rfl
      have hlv_250004 : C.live 250004 = [] := by rw [← hC]; rfl
      clear hC
      simp [htt, hlin, hreg, reg61, hcall, hcallP, hlv_200003, hlv_250003, hlv_200004, hlv_250004, e0, e9, h7]
    · have w1 : IntKind.i64.wrap x = x := wrap_ok (by simp; omega) (by simp; omega)
      have h1 : 0 < x := by omega
      rcases List.eq_nil_or_concat t with rfl | ⟨u, y, rfl⟩
      · refine .inl ⟨7, ?_⟩
        unfold err
        rw [callN_run (fn := Tryz.f61) rfl rfl rfl (by simp [Tryz.ntmps61])]
        generalize hC : (envG G).ctx 61 (callN (envG G) F (n+1)) (callP (envG G) F (n+1)) = C
        have htt : C.tt = (envG G).tt := by rw [← hC]; rfl
        have hlin : C.lin = [] := by rw [← hC]; rfl
        have hreg : C.reg = reg61 := by rw [← hC]; rfl
        have hcall : C.call = callN (envG G) F (n+1) := by rw [← hC]; rfl
        have hcallP : C.callP = callP (envG G) F (n+1) := by rw [← hC]; rfl
        have hlv_200003 : C.live 200003 = [] := by rw [← hC]; rfl
        have hlv_250003 : C.live 250003 = [] := by rw [← hC]; rfl
        have hlv_200004 : C.live 200004 = [] := by rw [← hC]; rfl
        have hlv_250004 : C.live 250004 = [] := by rw [← hC]; rfl
        clear hC
        simp [htt, hlin, hreg, reg61, hcall, hcallP, hlv_200003, hlv_250003, hlv_200004, hlv_250004, h7, w1, h1]
      · simp only [List.concat_eq_append] at *
        simp only [List.length_append, List.length_cons, List.length_nil] at hl
        have kc := t_clone (G := G) F n (u ++ [y]) (by simp; omega)
        have f1 : ¬ ((u.length : Int) + 1 = 0) := by omega
        have f2 : (u.length : Int) + 1 - 1 = u.length := by omega
        have f3 : (1 : Int) ≤ (u.length : Int) + 1 + 1 := by omega
        have f4 : (0 : Int) < (u.length : Int) + 1 + 1 := by omega
        have f5 : ¬ ((u.length : Int) + 1 + 1 = 0) := by omega
        have f6 : (u.length : Int) ≤ 9223372036854775807 := by omega
        have f7 : (-9223372036854775808 : Int) ≤ u.length := by omega
        have f8 : (0 : Int) ≤ x := by omega
        by_cases hq : andI .u8 y (IntKind.u8.wrap (IntKind.u8.wrap (2 ^ (min x.toNat 8)) - 1)) = 0
        · refine .inr ⟨u ++ [y], x, hx0, ?_⟩
          rw [callN_run (fn := Tryz.f61) rfl rfl rfl (by simp [Tryz.ntmps61])]
          generalize hC : (envG G).ctx 61 (callN (envG G) F (n+1)) (callP (envG G) F (n+1)) = C
          have htt : C.tt = (envG G).tt := by rw [← hC]; rfl
          have hlin : C.lin = [] := by rw [← hC]; rfl
          have hreg : C.reg = reg61 := by rw [← hC]; rfl
          have hcall : C.call = callN (envG G) F (n+1) := by rw [← hC]; rfl
          have hcallP : C.callP = callP (envG G) F (n+1) := by rw [← hC]; rfl
          have hlv_200003 : C.live 200003 = [] := by rw [← hC]; rfl
          have hlv_250003 : C.live 250003 = [] := by rw [← hC]; rfl
          have hlv_200004 : C.live 200004 = [] := by rw [← hC]; rfl
          have hlv_250004 : C.live 250004 = [] := by rw [← hC]; rfl
          clear hC
          simp [htt, hlin, hreg, reg61, hcall, hcallP, hlv_200003, hlv_250003, hlv_200004, hlv_250004, h7, w1, h1, f1, f2, f3, f4, f5, f6, f7, f8, hq, kc]
        · refine .inl ⟨7, ?_⟩
          unfold err
          rw [callN_run (fn := Tryz.f61) rfl rfl rfl (by simp [Tryz.ntmps61])]
          generalize hC : (envG G).ctx 61 (callN (envG G) F (n+1)) (callP (envG G) F (n+1)) = C
          have htt : C.tt = (envG G).tt := by rw [← hC]; rfl
          have hlin : C.lin = [] := by rw [← hC]; rfl
          have hreg : C.reg = reg61 := by rw [← hC]; rfl
          have hcall : C.call = callN (envG G) F (n+1) := by rw [← hC]; rfl
          have hcallP : C.callP = callP (envG G) F (n+1) := by rw [← hC]; rfl
          have hlv_200003 : C.live 200003 = [] := by rw [← hC]; rfl
          have hlv_250003 : C.live 250003 = [] := by rw [← hC]; rfl
          have hlv_200004 : C.live 200004 = [] := by rw [← hC]; rfl
          have hlv_250004 : C.live 250004 = [] := by rw [← hC]; rfl
          clear hC
          simp [htt, hlin, hreg, reg61, hcall, hcallP, hlv_200003, hlv_250003, hlv_200004, hlv_250004, h7, w1, h1, f1, f2, f3, f4, f5, f6, f7, f8, hq, kc]
end Go.Proofs.YtjmcgdhekjkjfaaGreatDoor
set_option linter.unusedSimpArgs false
set_option linter.unusedVariables false
namespace Go.Proofs.YtjmcgdhekjkjfaaGreatDoor
open Go Go.VM
variable {G : GE}
set_option maxRecDepth 100000
set_option maxHeartbeats 4000000
end Go.Proofs.YtjmcgdhekjkjfaaGreatDoor
set_option linter.unusedSimpArgs false
set_option linter.unusedVariables false
namespace Go.Proofs.YtjmcgdhekjkjfaaGreatDoor
open Go Go.VM
variable {G : GE}
set_option maxRecDepth 100000
set_option maxHeartbeats 4000000
theorem loop_rfine {C : Ctx} {F m : Nat} (htt : C.tt = (envG G).tt) (hlin : C.lin = []) (hreg : C.reg = reg47) (hcall : C.call = callN (envG G) F m) {c : Code}
    (hc : loopAt 6 Tryz.f47 = some c) (p0 p1 p2 p3 : D) (nl : Bool) (a : List Tlv) (ha : a.length ≤ 140737488355328)
    (hg : ∀ x ∈ a, callN (envG G) F m 47 [.d (.agg x.cells)] = some ⟨[.d (.bool x.fine)], []⟩) :
    ∀ (us : List Tlv) (i k : Nat) (st : St), a.drop i = us → i ≤ a.length → us.length < k →
      st.trim 1 [1, 3] = ⟨[(1, .ptr 0 0), (3, .d (.int .i64 i))], [some (.cells false [.d p0, .d p1, .d p2, .d p3, .d (.sl 5 nl (Tlv.cellsL a))])], []⟩ →
      ∃ bs, iter (ev C F c) 1 [1, 3] [2] k st = if Tlv.fineL us then some (.exit 0, ⟨[], bs, []⟩) else some (.ret, ⟨[(2, .d (.bool false))], bs, []⟩) := by
  have hev : ∀ st, ev C F c st = ev C F ((loopAt 6 Tryz.f47).getD .skip) st := fun st => by rw [hc]; rfl
  intro us
  induction us with
  | nil =>
    intro i k st hd hi hk hst
    obtain ⟨k, rfl⟩ : ∃ j, k = j + 1 := ⟨k - 1, by simp at hk; omega⟩
    have h0 := drop_nil hd
    have e0 : ¬ ((i : Int) < (a.length : Int)) := by omega
    rw [iter_eq, hst, hev]
    simp [loopAt, findLoop, Tryz.f47, htt, hlin, hreg, reg47, e0, Tlv.fineL, cellsL_len]
  | cons x us ih =>
    intro i k st hd hi hk hst
    obtain ⟨k, rfl⟩ : ∃ j, k = j + 1 := ⟨k - 1, by simp at hk; omega⟩
    simp at hk
    obtain ⟨hd2, hlt⟩ := drop_succ hd
    have ra := cellsL_at hd
    have hx := hg x (List.mem_of_getElem? (at_of_drop hd))
    have e0 : (i : Int) < (a.length : Int) := by omega
    have e1 : (i : Int) + 1 ≤ 9223372036854775807 := by omega
    have e2 : (-9223372036854775808 : Int) ≤ (i : Int) + 1 := by omega
    rw [iter_eq, hst, hev]
    simp only [Tlv.fineL]
    have ih' := fun st h => ih (i + 1) k st hd2 (by omega) hk h
    obtain ⟨c1, t, md, bn, b, kx, ks⟩ := x
    simp only [Tlv.cells] at ra hx
    rcases Bool.eq_false_or_eq_true (Tlv.fine (.mk c1 t md bn b kx ks)) with hs | hs
    case inr =>
      rw [hs] at hx
      simp [loopAt, findLoop, Tryz.f47, htt, hlin, hreg, reg47, hcall, e0, e1, e2, ra, hx, hs, cellsL_len]
    case inl =>
      rw [hs] at hx
      simp [loopAt, findLoop, Tryz.f47, htt, hlin, hreg, reg47, hcall, e0, e1, e2, ra, hx, hs, cellsL_len]
      simp at ih'
      exact ih' _ (by simp)
end Go.Proofs.YtjmcgdhekjkjfaaGreatDoor
set_option linter.unusedSimpArgs false
set_option linter.unusedVariables false
namespace Go.Proofs.YtjmcgdhekjkjfaaGreatDoor
open Go Go.VM
variable {G : GE}
set_option maxRecDepth 100000
set_option maxHeartbeats 4000000
theorem t_rfine (F : Nat) (hF : F ≤ 140737488355328) (B : Nat) (hB : B < F) : ∀ (d n : Nat) (x : Tlv), x.depth ≤ d → x.width B →
    callN (envG G) F (n + d) 47 [.d (.agg x.cells)] = some ⟨[.d (.bool x.fine)], []⟩ := by
  intro d
  induction d with
  | zero => intro n x hd; cases x; simp [Tlv.depth] at hd
  | succ d ih =>
    intro n x hd hw
    obtain ⟨c, t, m, bn, b, kn, ks⟩ := x
    simp only [Tlv.depth] at hd
    simp only [Tlv.width] at hw
    have hkl : ks.length ≤ B := hw.2.1
    simp only [Tlv.cells]
    rw [show n + (d + 1) = n + d + 1 by omega]
    have hcl := cellsL_len ks
    rw [callN_run (fn := Tryz.f47) rfl rfl rfl (by simp [Tryz.ntmps47])]
    generalize hC : (envG G).ctx 47 (callN (envG G) F (n+d)) (callP (envG G) F (n+d)) = C
    have htt : C.tt = (envG G).tt := by rw [← hC]; rfl
    have hlin : C.lin = [] := by rw [← hC]; rfl
    have hreg : C.reg = reg47 := by rw [← hC]; rfl
    have hcall : C.call = callN (envG G) F (n+d) := by rw [← hC]; rfl
    have hcallP : C.callP = callP (envG G) F (n+d) := by rw [← hC]; rfl
    have hlv_6 : C.live 6 = [1, 3] := by rw [← hC]; rfl
    have hlv_100006 : C.live 100006 = [2] := by rw [← hC]; rfl
    have hL0 := fun st h => loop_rfine (G := G) htt hlin hreg hcall rfl (.int .i64 c) (.int .i64 t) (.bool m) (.nums .u8 bn b) kn ks (by omega)
      (fun x hx => ih n x (by have := depthL_mem hx; omega) (widthL_mem hw.2.2 hx)) ks 0 F st rfl (by omega) (by omega) h
    have hL := fun st h => Classical.choose_spec (hL0 st h)
    clear hC ih
    simp only [Tlv.fine]
    by_cases h1 : c < 0
    · rw [decide_eq_false (by omega)]
      simp [htt, hlin, hreg, reg47, hcall, hcallP, hlv_6, hlv_100006, h1]
    by_cases h2 : 3 < c
    · rw [decide_eq_false (by omega)]
      simp [htt, hlin, hreg, reg47, hcall, hcallP, hlv_6, hlv_100006, h1, h2]
    by_cases h3 : t < 0
    · rw [decide_eq_false (by omega)]
      simp [htt, hlin, hreg, reg47, hcall, hcallP, hlv_6, hlv_100006, h1, h2, h3]
    by_cases h4 : 30 < t
    · rw [decide_eq_false (by omega)]
      simp [htt, hlin, hreg, reg47, hcall, hcallP, hlv_6, hlv_100006, h1, h2, h3, h4]
    cases m with
    | true =>
      by_cases h5 : b = []
      · subst h5
        rw [decide_eq_true ⟨by omega, by omega, by omega, by omega, by simp, by simp⟩, Bool.true_and]
        rcases Bool.eq_false_or_eq_true (Tlv.fineL ks) with hf | hf
        · simp only [hf, if_true] at hL ⊢
          simp at hL
          simp [htt, hlin, hreg, reg47, hcall, hcallP, hlv_6, hlv_100006, h1, h2, h3, h4, ev_loop]
          rw [hL _ (by simp)]
          simp [htt, hlin, hreg, reg47, hcall, hcallP, hlv_6, hlv_100006]
        · simp only [hf, Bool.false_eq_true, if_false] at hL ⊢
          simp at hL
          simp [htt, hlin, hreg, reg47, hcall, hcallP, hlv_6, hlv_100006, h1, h2, h3, h4, ev_loop]
          rw [hL _ (by simp)]
          simp [htt, hlin, hreg, reg47, hcall, hcallP, hlv_6, hlv_100006]
      · rw [decide_eq_false (fun h => h5 (h.2.2.2.2.1 rfl))]
        have h6 : 0 < b.length := by
          have : b.length ≠ 0 := fun h => h5 (List.length_eq_zero_iff.1 h)
          omega
        simp [htt, hlin, hreg, reg47, hcall, hcallP, hlv_6, hlv_100006, h1, h2, h3, h4, h6]
    | false =>
      by_cases h5 : ks = []
      · subst h5
        rw [decide_eq_true ⟨by omega, by omega, by omega, by omega, by simp, by simp⟩, Bool.true_and]
        simp only [Tlv.fineL, if_true] at hL ⊢
        simp [Tlv.cellsL] at hL
        simp [htt, hlin, hreg, reg47, hcall, hcallP, hlv_6, hlv_100006, h1, h2, h3, h4, ev_loop, Tlv.cellsL]
        rw [hL _ (by simp)]
        simp [htt, hlin, hreg, reg47, hcall, hcallP, hlv_6, hlv_100006]
      · rw [decide_eq_false (fun h => h5 (h.2.2.2.2.2 rfl))]
        have h6 : 0 < ks.length := by
          have : ks.length ≠ 0 := fun h => h5 (List.length_eq_zero_iff.1 h)
          omega
        simp [htt, hlin, hreg, reg47, hcall, hcallP, hlv_6, hlv_100006, h1, h2, h3, h4, h6, hcl]
end Go.Proofs.YtjmcgdhekjkjfaaGreatDoor
set_option linter.unusedSimpArgs false
set_option linter.unusedVariables false
namespace Go.Proofs.YtjmcgdhekjkjfaaGreatDoor
open Go Go.VM
variable {G : GE}
set_option maxRecDepth 100000
set_option maxHeartbeats 4000000
def tlvK' (p0 p1 p2 p3 : D) (x6 : Bool) (x7 : List Tlv) : Blk := .cells false [.d p0, .d p1, .d p2, .d p3, .d (.sl 5 x6 (Tlv.cellsL x7))]
theorem loop_bytes {m : Nat} {C : Ctx} {F : Nat} (hC : (envG G).ctx 49 (callN (envG G) F (m)) (callP (envG G) F (m)) = C) {c : Code} (hc : loopAt 3 Tryz.f49 = some c) (p0 p1 p2 p3 : D) (nl : Bool) (a : List Tlv) (ha : a.length ≤ 140737488355328)
    (hg : ∀ x ∈ a, callN (envG G) F m 49 [.d (.agg x.cells)] = some ⟨[.d (.nums .u8 false x.enc)], [0]⟩) :
    ∀ (us : List Tlv) (i k : Nat) (o : List Int) (st : St), a.drop i = us → i ≤ a.length → us.length < k → o.length + (Tlv.encL us).length ≤ 140737488355327 →
      st.trim 1 [1, 3, 4] = ⟨[(1, .ptr 0 0), (3, .d (.nums .u8 false o)), (4, .d (.int .i64 i))], [some (tlvK' p0 p1 p2 p3 nl a)], [.t 3]⟩ →
      iter (ev C F c) 1 [1, 3, 4] [1, 2, 3] k st = some (.exit 0, ⟨[(1, .ptr 0 0), (3, .d (.nums .u8 false (o ++ Tlv.encL us)))], [some (tlvK' p0 p1 p2 p3 nl a)], [.t 3]⟩) := by
  have htt : C.tt = (envG G).tt := by rw [← hC]; rfl
  have hlin : C.lin = [39, 11, 82, 79, 66, 55, 48, 6, 26, 3, 2, 8, 19, 44, 51, 58, 67, 80] := by rw [← hC]; rfl
  have hreg : C.reg = reg49 := by rw [← hC]; rfl
  have hcall : C.call = callN (envG G) F (m) := by rw [← hC]; rfl
  have hcallP : C.callP = callP (envG G) F (m) := by rw [← hC]; rfl
  have hlv_3 : C.live 3 = [1, 3, 4] := by rw [← hC]; rfl
  have hlv_100003 : C.live 100003 = [1, 2, 3] := by rw [← hC]; rfl
  have hev : ∀ st, ev C F c st = ev C F ((loopAt 3 Tryz.f49).getD .skip) st := fun st => by rw [hc]; rfl
  unfold tlvK'
  intro us
  induction us with
  | nil =>
    intro i k o st hd hi hk hzz hst
    obtain ⟨k, rfl⟩ : ∃ j, k = j + 1 := ⟨k - 1, by simp at hk; omega⟩
    have h0 := drop_nil hd
    have e0 : ¬ ((i : Int) < (a.length : Int)) := by omega
    rw [iter_eq, hst, hev]
    simp [loopAt, findLoop, Tryz.f49, htt, hlin, hreg, reg49, hcall, hcallP, hlv_3, hlv_100003, e0, Tlv.encL, cellsL_len]
  | cons x us ih =>
    intro i k o st hd hi hk hzz hst
    obtain ⟨k, rfl⟩ : ∃ j, k = j + 1 := ⟨k - 1, by simp at hk; omega⟩
    simp at hk
    obtain ⟨hd2, hlt⟩ := drop_succ hd
    have ra := cellsL_at hd
    have hxm := List.mem_of_getElem? (at_of_drop hd)
    simp only [Tlv.encL, List.length_append] at hzz ⊢
    have hx := hg x hxm
    have e0 : (i : Int) < (a.length : Int) := by omega
    have e1 : (i : Int) + 1 ≤ 9223372036854775807 := by omega
    have e2 : (-9223372036854775808 : Int) ≤ (i : Int) + 1 := by omega
    have ih' := fun st h => ih (i + 1) k (o ++ x.enc) st hd2 (by omega) hk (by simp; omega) h
    have l1 : o.length + x.enc.length ≤ 140737488355328 := by omega
    have l2 : o.length ≤ 140737488355327 := by omega
    have l3 : x.enc.length ≤ 140737488355328 := by omega
    rw [iter_eq, hst, hev]
    rw [← List.append_assoc]
    obtain ⟨c1, t, md, bn, b, kx, ks⟩ := x
    simp only [Tlv.cells] at ra hx
    generalize Tlv.enc (.mk c1 t md bn b kx ks) = s at *
    simp [loopAt, findLoop, Tryz.f49, htt, hlin, hreg, reg49, hcall, hcallP, hlv_3, hlv_100003, e0, e1, e2, ra, hx, cellsL_len, l1, l2, l3]
    simp at ih'
    exact ih' _ (by simp)
end Go.Proofs.YtjmcgdhekjkjfaaGreatDoor
set_option linter.unusedSimpArgs false
set_option linter.unusedVariables false
namespace Go.Proofs.YtjmcgdhekjkjfaaGreatDoor
open Go Go.VM
variable {G : GE}
set_option maxRecDepth 100000
set_option maxHeartbeats 4000000
theorem loop_rdepth {C : Ctx} {F m : Nat} (htt : C.tt = (envG G).tt) (hlin : C.lin = []) (hreg : C.reg = reg48) (hcall : C.call = callN (envG G) F m) {c : Code}
    (hc : loopAt 3 Tryz.f48 = some c) (p0 p1 p2 p3 : D) (nl : Bool) (a : List Tlv) (ha : a.length ≤ 140737488355328)
    (hg : ∀ x ∈ a, callN (envG G) F m 48 [.d (.agg x.cells)] = some ⟨[.d (.int .i64 x.depth)], []⟩) :
    ∀ (us : List Tlv) (i k z : Nat) (st : St), a.drop i = us → i ≤ a.length → us.length < k →
      st.trim 1 [1, 3, 4] = ⟨[(1, .ptr 0 0), (3, .d (.int .i64 z)), (4, .d (.int .i64 i))], [some (.cells false [.d p0, .d p1, .d p2, .d p3, .d (.sl 5 nl (Tlv.cellsL a))])], []⟩ →
      iter (ev C F c) 1 [1, 3, 4] [2, 3] k st = some (.exit 0, ⟨[(3, .d (.int .i64 ((max z (Tlv.depthL us) : Nat) : Int)))], [some (.cells false [.d p0, .d p1, .d p2, .d p3, .d (.sl 5 nl (Tlv.cellsL a))])], []⟩) := by
  have hev : ∀ st, ev C F c st = ev C F ((loopAt 3 Tryz.f48).getD .skip) st := fun st => by rw [hc]; rfl
  intro us
  induction us with
  | nil =>
    intro i k z st hd hi hk hst
    obtain ⟨k, rfl⟩ : ∃ j, k = j + 1 := ⟨k - 1, by simp at hk; omega⟩
    have h0 := drop_nil hd
    have e0 : ¬ ((i : Int) < (a.length : Int)) := by omega
    rw [iter_eq, hst, hev]
    simp [loopAt, findLoop, Tryz.f48, htt, hlin, hreg, reg48, e0, Tlv.depthL, cellsL_len]
  | cons x us ih =>
    intro i k z st hd hi hk hst
    obtain ⟨k, rfl⟩ : ∃ j, k = j + 1 := ⟨k - 1, by simp at hk; omega⟩
    simp at hk
    obtain ⟨hd2, hlt⟩ := drop_succ hd
    have ra := cellsL_at hd
    have hx := hg x (List.mem_of_getElem? (at_of_drop hd))
    have e0 : (i : Int) < (a.length : Int) := by omega
    have e1 : (i : Int) + 1 ≤ 9223372036854775807 := by omega
    have e2 : (-9223372036854775808 : Int) ≤ (i : Int) + 1 := by omega
    rw [iter_eq, hst, hev]
    simp only [Tlv.depthL]
    have ih' := fun z st h => ih (i + 1) k z st hd2 (by omega) hk h
    obtain ⟨c1, t, md, bn, b, kx, ks⟩ := x
    simp only [Tlv.cells] at ra hx
    generalize Tlv.depth (.mk c1 t md bn b kx ks) = s at *
    by_cases hm : z < s
    · have e3 : (z : Int) < (s : Int) := by omega
      rw [show max z (max s (Tlv.depthL us)) = max s (Tlv.depthL us) by omega]
      simp [loopAt, findLoop, Tryz.f48, htt, hlin, hreg, reg48, hcall, e0, e1, e2, e3, ra, hx, cellsL_len]
      simp at ih'
      exact ih' s _ (by simp)
    · have e3 : ¬ ((z : Int) < (s : Int)) := by omega
      rw [show max z (max s (Tlv.depthL us)) = max z (Tlv.depthL us) by omega]
      simp [loopAt, findLoop, Tryz.f48, htt, hlin, hreg, reg48, hcall, e0, e1, e2, e3, ra, hx, cellsL_len]
      simp at ih'
      exact ih' z _ (by simp)
theorem t_rdepth (F : Nat) (hF : F ≤ 140737488355328) (B : Nat) (hB : B < F) : ∀ (d n : Nat) (x : Tlv), d ≤ 1000000 → x.depth ≤ d → x.width B →
    callN (envG G) F (n + d) 48 [.d (.agg x.cells)] = some ⟨[.d (.int .i64 x.depth)], []⟩ := by
  intro d
  induction d with
  | zero => intro n x _ hd; cases x; simp [Tlv.depth] at hd
  | succ d ih =>
    intro n x hd0 hd hw
    obtain ⟨c, t, m, bn, b, kn, ks⟩ := x
    simp only [Tlv.depth] at hd
    simp only [Tlv.width] at hw
    have hkl : ks.length ≤ B := hw.2.1
    simp only [Tlv.cells, Tlv.depth]
    rw [show n + (d + 1) = n + d + 1 by omega, callN_run (fn := Tryz.f48) rfl rfl rfl (by simp [Tryz.ntmps48])]
    generalize hC : (envG G).ctx 48 (callN (envG G) F (n + d)) (callP (envG G) F (n + d)) = C
    have htt : C.tt = (envG G).tt := by rw [← hC]; rfl
    have hlin : C.lin = [] := by rw [← hC]; rfl
    have hreg : C.reg = reg48 := by rw [← hC]; rfl
    have hcall : C.call = callN (envG G) F (n + d) := by rw [← hC]; rfl
    have hl1 : C.live 3 = [1, 3, 4] := by rw [← hC]; rfl
    have hl2 : C.live 100003 = [2, 3] := by rw [← hC]; rfl
    have hL := fun st h => loop_rdepth (G := G) htt hlin hreg hcall rfl (.int .i64 c) (.int .i64 t) (.bool m) (.nums .u8 bn b) kn ks (by omega)
      (fun x hx => ih n x (by omega) (by have := depthL_mem hx; omega) (widthL_mem hw.2.2 hx)) ks 0 F 0 st rfl (by omega) (by omega) h
    have e1 : (Tlv.depthL ks : Int) + 1 ≤ 9223372036854775807 := by omega
    have e2 : (-9223372036854775808 : Int) ≤ (Tlv.depthL ks : Int) + 1 := by omega
    simp at hL
    simp [htt, hlin, hreg, reg48, hcall, ev_loop, hl1, hl2]
    rw [hL _ (by simp)]
    simp [htt, hlin, hreg, reg48, hcall, e1, e2]
end Go.Proofs.YtjmcgdhekjkjfaaGreatDoor
