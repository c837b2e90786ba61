/- What the reference's Parse hands back. -/
import Derived.Test.YtjmcgdhekjkjfaaDoorSF
import Derived.Test.YtjmcgdhekjkjfaaDoorSC
import Derived.Test.YtjmcgdhekjkjfaaDoorVMU
import Derived.Test.YtjmcgdhekjkjfaaDoorVMS
import Derived.Test.YtjmcgdhekjkjfaaDoorRows
import Derived.WalkKit
import Derived.ProofKit
import Derived.OpenShut
import Derived.ShutString
import Derived.ChangeOld
import Derived.ChangeSame
import Derived.ChangeVars
import Derived.JoinedOf
import Derived.Below
import Derived.SizedLaws
import Derived.LaidLaws
import Derived.LaidHandle
import Derived.Stop.Joined
set_option linter.unusedSimpArgs false
set_option linter.unusedVariables false
namespace Go.Proofs.YtjmcgdhekjkjfaaDoor
open Go Go.VM
variable {G : GE}
set_option maxRecDepth 100000
set_option maxHeartbeats 4000000

def rparseV : Res Tlv → List V
  | .ok x => [.d (.agg x.cells), .d (.int .i64 0), .d (.int .i64 (-1))]
  | .bad c p => [.d (.agg zeroT.cells), .d (.int .i64 c), .d (.int .i64 p)]

theorem t_rParse (F : Nat) (hF : 1048580 < F) (n : Nat) (b : List Int) (nl : Bool) (hnl : nl = true → b = []) (hb : ∀ c ∈ b, 0 ≤ c ∧ c < 256) :
    callN (envG G) F (n + 20) 13 [.d (.nums .u8 nl b)] = some ⟨rparseV (parseB b), []⟩ := by
  have ke := fun (h : b.length ≤ 1048576) => t_relem (G := G) F hF b nl hnl hb h 0 16 0 n 0 b.length (by omega) (by omega) (by omega)
  have kp := @elemB_place b 16 0 b.length
  have ko := fun x e => elemB_ok hb 16 0 b.length x e (Nat.le_refl _)
  rw [callN_run (fn := Tryd.f13) rfl rfl rfl (by simp [Tryd.ntmps13])]
  generalize hC : (envG G).ctx 13 (callN (envG G) F (n+19)) (callP (envG G) F (n+19)) = C
  have htt : C.tt = (envG G).tt := by rw [← hC]; rfl
  have hlin : C.lin = [] := by rw [← hC]; rfl
  have hreg : C.reg = reg13 := by rw [← hC]; rfl
  have hcall : C.call = callN (envG G) F (n+19) := by rw [← hC]; rfl
  have hcallP : C.callP = callP (envG G) F (n+19) := by rw [← hC]; rfl
  have hlv_200006 : C.live 200006 = [4, 8, 9] := by rw [← hC]; rfl
  have hlv_300006 : C.live 300006 = [2] := by rw [← hC]; rfl
  unfold parseB
  by_cases c1 : 1048576 < b.length
  · have f1 : (1048576 : Int) < b.length := by omega
    simp only [if_pos c1, rparseV, zeroT, Tlv.cells, Tlv.cellsL]
    simp [htt, hlin, hreg, reg13, hcall, hcallP, hlv_200006, hlv_300006, f1]
  · have f1 : ¬ (1048576 : Int) < b.length := by omega
    have ke' := ke (by omega)
    clear ke
    rw [if_neg c1]
    unfold rdr at ke'
    generalize elemB b 16 0 b.length = r at *
    cases r with
    | bad c p =>
      have hp := kp rfl
      have hc : ¬ c = 0 := by omega
      simp only at ke'
      obtain ⟨x, ke'⟩ := ke'
      simp only [rparseV, zeroT, Tlv.cells, Tlv.cellsL]
      obtain ⟨xc, xt, xm, xbn, xb, xkn, xks⟩ := x
      simp only [Tlv.cells] at ke'
      simp at ke'
      cases xkn <;> cases xbn <;>
      simp [htt, hlin, hreg, reg13, hcall, hcallP, hlv_200006, hlv_300006, f1, ke', hc]
    | ok r =>
      obtain ⟨x, e⟩ := r
      have hx := ko x e rfl
      have hh := hx.hi
      clear ko kp hx
      obtain ⟨xc, xt, xm, xbn, xb, xkn, xks⟩ := x
      simp only [Tlv.cells] at ke'
      simp at ke'
      by_cases c2 : e < b.length
      · have f2 : (e : Int) < b.length := by omega
        simp only [if_pos c2, rparseV, zeroT, Tlv.cells, Tlv.cellsL]
        cases xkn <;> cases xbn <;>
        simp [htt, hlin, hreg, reg13, hcall, hcallP, hlv_200006, hlv_300006, f1, ke', f2]
      · have f2 : ¬ (e : Int) < b.length := by omega
        simp only [if_neg c2, rparseV, Tlv.cells]
        cases xkn <;> cases xbn <;>
        simp [htt, hlin, hreg, reg13, hcall, hcallP, hlv_200006, hlv_300006, f1, ke', f2]
end Go.Proofs.YtjmcgdhekjkjfaaDoor

/- What the reference's Same hands back. -/
set_option linter.unusedSimpArgs false
set_option linter.unusedVariables false
namespace Go.Proofs.YtjmcgdhekjkjfaaDoor
open Go Go.VM
variable {G : GE}
set_option maxRecDepth 100000
set_option maxHeartbeats 4000000

def tlvB (p0 p1 : Int) (p2 : Bool) (bn : Bool) (b : List Int) (kn : Bool) (ks : List Tlv) : Option Blk := some (.cells false [.d (.int .i64 p0), .d (.int .i64 p1), .d (.bool p2), .d (.nums .u8 bn b), .d (.sl 5 kn (Tlv.cellsL ks))])

theorem loop_same {m : Nat} {C : Ctx} {F : Nat} (hC : (envG G).ctx 14 (callN (envG G) F (m)) (callP (envG G) F (m)) = C) {c : Code} (hc : loopAt 4 Tryd.f14 = some c) (p0 p1 q0 q1 : Int) (p2 q2 bn cn : Bool) (b1 c1 : List Int) (kn ln : Bool) (a b : List Tlv) (ha : a.length ≤ 140737488355328) (hab : a.length = b.length)
    (hg : ∀ x ∈ a, ∀ y ∈ b, callN (envG G) F m 14 [.d (.agg x.cells), .d (.agg y.cells)] = some ⟨[.d (.bool (x.same y))], []⟩) :
    ∀ (us vs : List Tlv) (i k : Nat) (st : St), a.drop i = us → b.drop i = vs → i ≤ a.length → us.length < k →
      st.trim 2 [2, 3, 5] = ⟨[(2, .ptr 0 0), (3, .ptr 1 0), (5, .d (.int .i64 i))], [tlvB p0 p1 p2 bn b1 kn a, tlvB q0 q1 q2 cn c1 ln b], []⟩ →
      if Tlv.sameL us vs then iter (ev C F c) 2 [2, 3, 5] [4] k st = some (.exit 0, ⟨[], [tlvB p0 p1 p2 bn b1 kn a, tlvB q0 q1 q2 cn c1 ln b], []⟩)
      else ∃ st', iter (ev C F c) 2 [2, 3, 5] [4] k st = some (.ret, st') ∧ finish C Tryd.f14.results.toList (some (.ret, st')) = some ⟨[.d (.bool false)], []⟩ := by
  have htt : C.tt = (envG G).tt := by rw [← hC]; rfl
  have hlin : C.lin = [] := by rw [← hC]; rfl
  have hreg : C.reg = reg14 := by rw [← hC]; rfl
  have hcall : C.call = callN (envG G) F (m) := by rw [← hC]; rfl
  have hcallP : C.callP = callP (envG G) F (m) := by rw [← hC]; rfl
  have hlv_4 : C.live 4 = [2, 3, 5] := by rw [← hC]; rfl
  have hlv_100004 : C.live 100004 = [4] := by rw [← hC]; rfl
  have hlv_200006 : C.live 200006 = [] := by rw [← hC]; rfl
  have hev : ∀ st, ev C F c st = ev C F ((loopAt 4 Tryd.f14).getD .skip) st := fun st => by rw [hc]; rfl
  unfold tlvB
  intro us
  induction us with
  | nil =>
    intro vs i k st hd hd2 hi hk hst
    obtain ⟨k, rfl⟩ : ∃ j, k = j + 1 := ⟨k - 1, by simp at hk; omega⟩
    have h0 := drop_nil hd
    have hv : vs = [] := by rw [← hd2]; exact List.drop_eq_nil_of_le (by omega)
    subst hv
    have e0 : ¬ ((i : Int) < (a.length : Int)) := by omega
    rw [iter_eq, hst, hev]
    simp [loopAt, findLoop, Tryd.f14, htt, hlin, hreg, reg14, hcall, hcallP, hlv_4, hlv_100004, hlv_200006, e0, Tlv.sameL, cellsL_len]
  | cons x us ih =>
    intro vs i k st hd hd2 hi hk hst
    obtain ⟨k, rfl⟩ : ∃ j, k = j + 1 := ⟨k - 1, by simp at hk; omega⟩
    simp at hk
    obtain ⟨hd3, hlt⟩ := drop_succ hd
    cases vs with
    | nil => have := drop_nil hd2; omega
    | cons y vs =>
      obtain ⟨hd4, hlt2⟩ := drop_succ hd2
      have ra := cellsL_at hd
      have rb := cellsL_at hd2
      have hx := hg x (List.mem_of_getElem? (at_of_drop hd)) y (List.mem_of_getElem? (at_of_drop hd2))
      have e0 : (i : Int) < (a.length : Int) := by omega
      have e1 : (i : Int) + 1 ≤ 9223372036854775807 := by omega
      have e2 : (-9223372036854775808 : Int) ≤ (i : Int) + 1 := by omega
      simp only [Tlv.sameL]
      have ih' := fun st h => ih vs (i + 1) k st hd3 hd4 (by omega) hk h
      obtain ⟨x1, x2, x3, x4, x5, x6, x7⟩ := x
      obtain ⟨y1, y2, y3, y4, y5, y6, y7⟩ := y
      simp only [Tlv.cells] at ra rb hx
      rcases Bool.eq_false_or_eq_true (Tlv.same (.mk x1 x2 x3 x4 x5 x6 x7) (.mk y1 y2 y3 y4 y5 y6 y7)) with hs | hs
      case inr =>
        rw [hs] at hx
        rw [iter_eq, hst, hev]
        simp [loopAt, findLoop, Tryd.f14, htt, hlin, hreg, reg14, hcall, hcallP, hlv_4, hlv_100004, hlv_200006, e0, e1, e2, ra, rb, hx, hs, cellsL_len]
      case inl =>
        rw [hs] at hx
        rcases Bool.eq_false_or_eq_true (Tlv.sameL us vs) with h2 | h2
        · rw [h2] at ih'
          simp only [hs, h2, Bool.and_self, if_true] at ih' ⊢
          rw [iter_eq, hst, hev]
          simp [loopAt, findLoop, Tryd.f14, htt, hlin, hreg, reg14, hcall, hcallP, hlv_4, hlv_100004, hlv_200006, e0, e1, e2, ra, rb, hx, hs, cellsL_len]
          simp at ih'
          exact ih' _ (by simp)
        · rw [h2] at ih'
          simp only [hs, h2, Bool.and_false, Bool.false_eq_true, if_false] at ih' ⊢
          rw [iter_eq, hst, hev]
          simp [loopAt, findLoop, Tryd.f14, htt, hlin, hreg, reg14, hcall, hcallP, hlv_4, hlv_100004, hlv_200006, e0, e1, e2, ra, rb, hx, hs, cellsL_len]
          simp [Tryd.f14, htt, hlin, hreg, reg14, hcall, hcallP, hlv_4, hlv_100004, hlv_200006] at ih'
          exact ih' _ (by simp)

theorem t_same (F : Nat) (hF : F ≤ 140737488355328) (B : Nat) (hB : B < F) : ∀ (d n : Nat) (x y : Tlv), x.depth ≤ d → x.width B → y.width B →
    callN (envG G) F (n + d) 14 [.d (.agg x.cells), .d (.agg y.cells)] = some ⟨[.d (.bool (x.same y))], []⟩ := by
  intro d
  induction d with
  | zero => intro n x y hd; cases x; simp [Tlv.depth] at hd
  | succ d ih =>
    intro n x y hd hw hwy
    obtain ⟨x1, x2, x3, x4, x5, x6, x7⟩ := x
    obtain ⟨y1, y2, y3, y4, y5, y6, y7⟩ := y
    simp only [Tlv.depth] at hd
    simp only [Tlv.width] at hw hwy
    have hkl : x7.length ≤ B := hw.2.1
    have hbl : x5.length ≤ B := hw.1
    have hbl2 : y5.length ≤ B := hwy.1
    simp only [Tlv.cells]
    rw [show n + (d + 1) = n + d + 1 by omega]
    rw [callN_run (fn := Tryd.f14) rfl rfl rfl (by simp [Tryd.ntmps14])]
    generalize hC : (envG G).ctx 14 (callN (envG G) F (n+d)) (callP (envG G) F (n+d)) = C
    have htt : C.tt = (envG G).tt := by rw [← hC]; rfl
    have hlin : C.lin = [] := by rw [← hC]; rfl
    have hreg : C.reg = reg14 := by rw [← hC]; rfl
    have hcall : C.call = callN (envG G) F (n+d) := by rw [← hC]; rfl
    have hcallP : C.callP = callP (envG G) F (n+d) := by rw [← hC]; rfl
    have hlv_4 : C.live 4 = [2, 3, 5] := by rw [← hC]; rfl
    have hlv_100004 : C.live 100004 = [4] := by rw [← hC]; rfl
    have hlv_200006 : C.live 200006 = [] := by rw [← hC]; rfl
    have m1 : x5.length ≤ 140737488355328 := by omega
    have m2 : y5.length ≤ 140737488355328 := by omega
    by_cases h : x1 = y1 ∧ x2 = y2 ∧ x3 = y3 ∧ x5 = y5 ∧ x7.length = y7.length
    case neg =>
      have hs : Tlv.same (.mk x1 x2 x3 x4 x5 x6 x7) (.mk y1 y2 y3 y4 y5 y6 y7) = false := by
        simp only [Tlv.same, decide_eq_false h, Bool.false_and]
      rw [hs]
      by_cases c1 : x1 = y1
      · by_cases c2 : x2 = y2
        · by_cases c3 : x3 = y3
          · by_cases c4 : x5 = y5
            · have c5 : ¬ x7.length = y7.length := fun c5 => h ⟨c1, c2, c3, c4, c5⟩
              have c6 : ¬ (x7.length : Int) = y7.length := by omega
              subst c1; subst c2; subst c3; subst c4
              simp [htt, hlin, hreg, reg14, hcall, hcallP, hlv_4, hlv_100004, hlv_200006, cellsL_len, m1, m2, c5, c6]
            · subst c1; subst c2; subst c3
              simp [htt, hlin, hreg, reg14, hcall, hcallP, hlv_4, hlv_100004, hlv_200006, cellsL_len, m1, m2, c4]
          · subst c1; subst c2
            cases x3 <;> cases y3 <;> simp at c3 <;> simp [htt, hlin, hreg, reg14, hcall, hcallP, hlv_4, hlv_100004, hlv_200006, cellsL_len, m1, m2]
        · subst c1
          simp [htt, hlin, hreg, reg14, hcall, hcallP, hlv_4, hlv_100004, hlv_200006, cellsL_len, m1, m2, c2]
      · simp [htt, hlin, hreg, reg14, hcall, hcallP, hlv_4, hlv_100004, hlv_200006, cellsL_len, m1, m2, c1]
    case pos =>
      obtain ⟨rfl, rfl, rfl, rfl, hl⟩ := h
      have hs : Tlv.same (.mk x1 x2 x3 x4 x5 x6 x7) (.mk x1 x2 x3 y4 x5 y6 y7) = Tlv.sameL x7 y7 := by
        simp [Tlv.same, hl]
      rw [hs]
      have hL := fun st h => loop_same (G := G) hC rfl x1 x2 x1 x2 x3 x3 x4 y4 x5 x5 x6 y6 x7 y7 (by omega) hl
        (fun x hx y hy => ih n x y (by have := depthL_mem hx; omega) (widthL_mem hw.2.2 hx) (widthL_mem hwy.2.2 hy)) x7 y7 0 F st rfl rfl (by omega) (by omega) h
      have hl2 : (x7.length : Int) = y7.length := by omega
      unfold tlvB at hL
      clear hC ih
      rcases Bool.eq_false_or_eq_true (Tlv.sameL x7 y7) with h2 | h2
      · rw [h2] at hL ⊢
        simp at hL
        simp [htt, hlin, hreg, reg14, hcall, hcallP, hlv_4, hlv_100004, hlv_200006, cellsL_len, m1, m2, hl, ev_loop]
        rw [hL _ (by simp)]
        simp [htt, hlin, hreg, reg14, hcall, hcallP, hlv_4, hlv_100004, hlv_200006]
      · rw [h2] at hL ⊢
        simp only [Bool.false_eq_true, if_false] at hL
        have hL2 := fun st h => Classical.choose_spec (hL st h)
        simp [Tryd.f14, htt, hlin, hreg, reg14, hcall, hcallP, hlv_4, hlv_100004, hlv_200006] at hL2
        simp [htt, hlin, hreg, reg14, hcall, hcallP, hlv_4, hlv_100004, hlv_200006, cellsL_len, m1, m2, hl, ev_loop]
        rw [(hL2 _ (by simp)).1]
        simp [htt, hlin, hreg, reg14, hcall, hcallP, hlv_4, hlv_100004, hlv_200006]
        exact (hL2 _ (by simp)).2
end Go.Proofs.YtjmcgdhekjkjfaaDoor

/- What is laid for the statements on bytes; the law's examples. -/
set_option linter.unusedSimpArgs false
set_option linter.unusedVariables false
namespace Go.Proofs.YtjmcgdhekjkjfaaDoor
open Go Go.VM
set_option maxRecDepth 100000
set_option maxHeartbeats 4000000

noncomputable def gErr : GE := { glob := fun g => match Nat.beq g 1 with | true => some errT | false => none, ext := fun f args => match Nat.beq f 16 with | true => isX args | false => none }

theorem gErr_ok : EnvOk Tryd.prog (envG gErr) := envOk gErr (fun f args r h => by
  simp only [gErr] at h
  split at h
  · rename_i hf
    have hf := Nat.eq_of_beq_eq_true hf
    subst hf
    exact is_sound rfl args r h
  · cases h)

theorem t_Is (F n : Nat) (args : List V) : callN (envG gErr) F (n+1) 16 args = (isX args).orElse fun _ => callN (envG gErr) F (n+1) 16 args := by
  cases h : isX args with
  | none => rfl
  | some r =>
    rw [callN_succ]
    have : (envG gErr).ext 16 args = some r := h
    rw [this]
    rfl

theorem t_Is_spot (F n : Nat) (q k p c : Int) : callN (envG gErr) F (n+1) 16 [.d (spotD k q), .d (.int .i64 p), .d (.int .i64 c)] = some ⟨[.d (.bool (decide (q = p ∧ k = c)))], []⟩ := by
  rw [callN_succ]
  rfl
theorem t_Is_err (F n : Nat) (k p c : Int) : callN (envG gErr) F (n+1) 16 [.d (err k), .d (.int .i64 p), .d (.int .i64 c)] = some ⟨[.d (.bool false)], []⟩ := by
  rw [callN_succ]
  rfl
theorem t_Is_nil (F n : Nat) (p c : Int) : callN (envG gErr) F (n+1) 16 [.d .nilifc, .d (.int .i64 p), .d (.int .i64 c)] = some ⟨[.d (.bool false)], []⟩ := by
  rw [callN_succ]
  rfl

theorem up0 : callN (envG gErr) 200 40 11 [] = some ⟨[.d (.bool true)], []⟩ := by kernel_rfl
theorem up (F n : Nat) (hf : 200 ≤ F) (hn : 40 ≤ n) : callN (envG gErr) F n 11 [] = some ⟨[.d (.bool true)], []⟩ := callN_mono hf hn up0
end Go.Proofs.YtjmcgdhekjkjfaaDoor

/- The law DerParses, reckoned by the machine over values, hands back true: for all bytes. -/
set_option linter.unusedSimpArgs false
set_option linter.unusedVariables false
namespace Go.Proofs.YtjmcgdhekjkjfaaDoor
open Go Go.VM
set_option maxRecDepth 100000
set_option maxHeartbeats 4000000

mutual
theorem same_refl : ∀ x : Tlv, x.same x = true
  | .mk c t m bn b kn ks => by simp only [Tlv.same, Bool.and_eq_true, decide_eq_true_eq]; exact ⟨by simp, same_reflL ks⟩
theorem same_reflL : ∀ l : List Tlv, Tlv.sameL l l = true
  | [] => rfl
  | x :: l => by simp only [Tlv.sameL, same_refl x, same_reflL l, Bool.and_self]
end

theorem parseB_bad {b : List Int} {c p : Int} (h : parseB b = .bad c p) : (p = -1 ∧ c = 2) ∨ 0 ≤ p ∧ 1 ≤ c ∧ c ≤ 9 := by
  unfold parseB at h
  split at h
  · injection h with h1 h2; exact .inl ⟨h2.symm, h1.symm⟩
  · split at h
    · rename_i h1; injection h with h2 h3; subst h2; subst h3; exact .inr (elemB_place h1)
    · split at h
      · injection h with h2 h3; omega
      · cases h

theorem p_law (F : Nat) (hF : 1048580 < F) (hF2 : F ≤ 140737488355328) (n : Nat) (b : List Int) (nl : Bool) (hnl : nl = true → b = []) (hb : ∀ c ∈ b, 0 ≤ c ∧ c < 256) :
    callN (envG gErr) F (n + 60) 3 [.d (.nums .u8 nl b)] = some ⟨[.d (.bool true)], []⟩ := by
  have hu := up F (n + 59) (by omega) (by omega)
  have hp : callN (envG gErr) F (n + 59) _ _ = _ := t_Parse (G := gErr) F hF (n + 39) b nl hnl hb
  have hr : callN (envG gErr) F (n + 59) _ _ = _ := t_rParse (G := gErr) F hF (n + 39) b nl hnl hb
  have hc : callN (envG gErr) F (n + 59) _ _ = _ := t_Code (G := gErr) F (n + 58) (by omega) 2
  have hi : ∀ q k p c, callN (envG gErr) F (n + 59) _ _ = _ := fun q k p c => t_Is_spot F (n + 58) q k p c
  have hz : callN (envG gErr) F (n + 59) _ _ = _ := t_same (G := gErr) F hF2 1048576 (by omega) 16 (n + 43) zeroT zeroT (by simp [zeroT, Tlv.depth, Tlv.depthL]) (by simp [zeroT, Tlv.width, Tlv.widthL]) (by simp [zeroT, Tlv.width, Tlv.widthL])
  rw [same_refl] at hz
  have hok : ∀ x, parseB b = .ok x → callN (envG gErr) F (n + 59) 14 [.d (.agg x.cells), .d (.agg x.cells)] = some ⟨[.d (.bool true)], []⟩ := fun x hx => by
    have h := parseB_ok hb hx
    have hw := weight_width (W := 1048576) x (by omega)
    have := t_same (G := gErr) F hF2 1048576 (by omega) 16 (n + 43) x x h.2.2.2.1 hw hw
    rw [same_refl] at this
    exact this
  have hbad : ∀ c p, parseB b = .bad c p → _ := fun c p h => parseB_bad h
  rw [callN_run (fn := Tryd.f3) rfl rfl rfl (by simp [Tryd.ntmps3])]
  generalize hC : (envG gErr).ctx 3 (callN (envG gErr) F (n+59)) (callP (envG gErr) F (n+59)) = C
  have htt : C.tt = (envG gErr).tt := by rw [← hC]; rfl
  have hlin : C.lin = [] := by rw [← hC]; rfl
  have hreg : C.reg = reg3 := by rw [← hC]; rfl
  have hcall : C.call = callN (envG gErr) F (n+59) := by rw [← hC]; rfl
  have hcallP : C.callP = callP (envG gErr) F (n+59) := by rw [← hC]; rfl
  clear hC
  by_cases c1 : 100000 < b.length ∧ b.length ≤ 1048576
  · have f1 : (100000 : Int) < b.length := by omega
    have f2 : (b.length : Int) ≤ 1048576 := by omega
    have f2' : ¬ (1048576 : Int) < b.length := by omega
    simp [htt, hlin, hreg, reg3, hcall, hcallP, hu, f1, f2, f2']
  · generalize hpb : parseB b = r at *
    cases r with
    | ok x =>
      have hs := hok x rfl
      clear hok hbad
      simp only [parseV, rparseV] at hp hr
      obtain ⟨x1, x2, x3, x4, x5, x6, x7⟩ := x
      simp only [Tlv.cells] at hp hr hs
      by_cases f1 : (100000 : Int) < b.length
      · have f2 : (1048576 : Int) < b.length := by omega
        have f2' : ¬ (b.length : Int) ≤ 1048576 := by omega
        cases x4 <;> cases x6 <;> simp [htt, hlin, hreg, reg3, hcall, hcallP, hu, hp, hr, hs, f1, f2, f2']
      · cases x4 <;> cases x6 <;> simp [htt, hlin, hreg, reg3, hcall, hcallP, hu, hp, hr, hs, f1]
    | bad c p =>
      have hq := hbad c p rfl
      clear hok hbad
      simp only [parseV, rparseV, zeroT, Tlv.cells, Tlv.cellsL] at hp hr hz
      have hc0 : ¬ c = 0 := by omega
      unfold atD at hp
      by_cases f1 : (100000 : Int) < b.length
      · have f2 : (1048576 : Int) < b.length := by omega
        have f2' : ¬ (b.length : Int) ≤ 1048576 := by omega
        by_cases hp0 : p < 0
        · have hc2 : c = 2 := by omega
          have hp1 : p = -1 := by omega
          subst hc2; subst hp1
          rw [if_pos hp0] at hp
          unfold err at hp hc
          simp at hc
          simp [htt, hlin, hreg, reg3, hcall, hcallP, hu, hp, hr, hz, hc, f1, f2, f2']
        · rw [if_neg hp0] at hp
          have hi' := hi p c p c
          unfold spotD err at hp hi'
          simp at hi'
          simp [htt, hlin, hreg, reg3, hcall, hcallP, hu, hp, hr, hz, hc0, hp0, hi', f1, f2, f2']
      · by_cases hp0 : p < 0
        · have hc2 : c = 2 := by omega
          have hp1 : p = -1 := by omega
          subst hc2; subst hp1
          rw [if_pos hp0] at hp
          unfold err at hp hc
          simp at hc
          simp [htt, hlin, hreg, reg3, hcall, hcallP, hu, hp, hr, hz, hc, f1]
        · rw [if_neg hp0] at hp
          have hi' := hi p c p c
          unfold spotD err at hp hi'
          simp at hi'
          simp [htt, hlin, hreg, reg3, hcall, hcallP, hu, hp, hr, hz, hc0, hp0, hi', f1]
end Go.Proofs.YtjmcgdhekjkjfaaDoor

/- The law DerOnce, reckoned by the machine over values, hands back true: for all bytes. -/
set_option linter.unusedSimpArgs false
set_option linter.unusedVariables false
namespace Go.Proofs.YtjmcgdhekjkjfaaDoor
open Go Go.VM
set_option maxRecDepth 100000
set_option maxHeartbeats 4000000

theorem badW_0 {x : Tlv} (h1 : x.fine = true) (h2 : x.depth ≤ 16) (h3 : x.enc.length ≤ 1048576) : badW x = 0 := by
  unfold badW
  rw [if_neg (by simp [h1]), if_neg (by omega), if_neg (by omega)]

theorem o_law (F : Nat) (hF : 1048580 < F) (hF2 : F ≤ 140737488355328) (n : Nat) (b : List Int) (nl : Bool) (hnl : nl = true → b = []) (hb : ∀ c ∈ b, 0 ≤ c ∧ c < 256) :
    callN (envG gErr) F (n + 80) 4 [.d (.nums .u8 nl b)] = some ⟨[.d (.bool true)], []⟩ := by
  have hu := up F (n + 79) (by omega) (by omega)
  have hp : callN (envG gErr) F (n + 79) _ _ = _ := t_Parse (G := gErr) F hF (n + 59) b nl hnl hb
  have hok : ∀ x, parseB b = .ok x → callN (envG gErr) F (n + 79) 17 [.d (.agg x.cells)] = some ⟨[.d (.nums .u8 false b), .d .nilifc], [0]⟩ := fun x hx => by
    have h := parseB_ok hb hx
    have hw := weight_width (W := 1048576) x (by omega)
    have := t_Write (G := gErr) F hF2 1048576 (by omega) (by omega) 16 (n + 13) x (by omega) h.2.2.2.1 hw
    rw [badW_0 h.2.2.1 h.2.2.2.1 (by rw [h.2.1]; exact h.1), h.2.1] at this
    exact this
  have hlen : ∀ x, parseB b = .ok x → b.length ≤ 140737488355328 := fun x hx => by have h := parseB_ok hb hx; omega
  rw [callN_run (fn := Tryd.f4) rfl rfl rfl (by simp [Tryd.ntmps4])]
  generalize hC : (envG gErr).ctx 4 (callN (envG gErr) F (n+79)) (callP (envG gErr) F (n+79)) = C
  have htt : C.tt = (envG gErr).tt := by rw [← hC]; rfl
  have hlin : C.lin = [] := by rw [← hC]; rfl
  have hreg : C.reg = reg4 := by rw [← hC]; rfl
  have hcall : C.call = callN (envG gErr) F (n+79) := by rw [← hC]; rfl
  have hcallP : C.callP = callP (envG gErr) F (n+79) := by rw [← hC]; rfl
  clear hC
  by_cases c1 : 100000 < b.length
  · have f1 : (100000 : Int) < b.length := by omega
    simp [htt, hlin, hreg, reg4, hcall, hcallP, hu, f1]
  · have f1 : ¬ (100000 : Int) < b.length := by omega
    have hl : b.length ≤ 140737488355328 := by omega
    generalize hpb : parseB b = r at *
    cases r with
    | ok x =>
      have hs := hok x rfl
      clear hok
      simp only [parseV] at hp
      obtain ⟨x1, x2, x3, x4, x5, x6, x7⟩ := x
      simp only [Tlv.cells] at hp hs
      cases x4 <;> cases x6 <;> simp [htt, hlin, hreg, reg4, hcall, hcallP, hu, hp, hs, f1, hl]
    | bad c p =>
      clear hok
      simp only [parseV, zeroT, Tlv.cells, Tlv.cellsL] at hp
      unfold atD at hp
      by_cases hp0 : p < 0
      · rw [if_pos hp0] at hp
        unfold err at hp
        simp [htt, hlin, hreg, reg4, hcall, hcallP, hu, hp, f1]
      · rw [if_neg hp0] at hp
        unfold spotD err at hp
        simp [htt, hlin, hreg, reg4, hcall, hcallP, hu, hp, f1]
end Go.Proofs.YtjmcgdhekjkjfaaDoor

/- What is laid, as a world tells it. -/
namespace Go.Proofs.YtjmcgdhekjkjfaaDoor
open Go.ChangeShapes Go.WideShapes Go.ChangeAt Go.RowKit Go.VM
set_option linter.unusedVariables false

theorem own : ownKnob Tryd.prog.godebug = none := by kernel_rfl
theorem laidOut : laidOutB Tryd.prog = true := by kernel_rfl
theorem As.et : Tryd.prog.globalNamed "errors.errorType" = some 1 := by kernel_rfl
theorem As.rt : (Tryd.prog.cutTypes.find? (·.1 == "internal/reflectlite.rtype")).map (·.2) = some 189 := by kernel_rfl
theorem As.oneRow : ((List.range 242).filter fun t => Tryd.prog.rowNamed t [101, 114, 114, 111, 114]) = [28] := by kernel_rfl
theorem As.size : Tryd.prog.types.size = 242 := by kernel_rfl

def errLaid {H : Type} : List (String × DataW H) := [("errors.errorType", Rows.laid_errors_errorType)]

theorem handle_of_laid {W : World} (h : laidMetH Tryd.prog errLaid W) : W.cell? ⟨1, 0, none⟩ = some (.iface 189 (.agg #[.pointer (some ⟨8, 28, none⟩)])) := by
  have h' : laidMet Tryd.prog [] W ∧ handlesMet Tryd.prog errLaid W := h
  obtain ⟨name, u, ty, e1, e2, e3, e4, e5⟩ := h'.2 _ (List.mem_singleton.2 rfl)
  have en : name = [101, 114, 114, 111, 114] := (Option.some.inj e1).symm
  subst en
  obtain rfl := Option.some.inj (As.rt.symm.trans e2)
  have hm : ty ∈ (List.range 242).filter fun t => Tryd.prog.rowNamed t [101, 114, 114, 111, 114] := List.mem_filter.2 ⟨List.mem_range.2 (by rw [← As.size]; exact e3), e4⟩
  rw [As.oneRow] at hm
  obtain rfl := List.mem_singleton.1 hm
  have hh : typeHandle Tryd.prog 28 = .pointer (some ⟨8, 28, none⟩) := by kernel_rfl
  rw [hh] at e5
  simpa using World.var?_cell As.et e5 0

/-- A world that meets the condition. -/
noncomputable def laidWorld (os : Os) : World :=
  let w0 := World.holding Tryd.prog os ⟨#[], #[], []⟩
  { w0 with heap := w0.heap.modify 1 fun
      | .cells _ t frozen => .cells #[.iface 189 (.agg #[.pointer (some ⟨8, 28, none⟩)])] t frozen
      | o => o }
theorem laidWorld_met (os : Os) (args : Array Value) : laidMetH Tryd.prog errLaid ((laidWorld os).forCall (fun _ _ => 0) ⟨#[], args, []⟩).memory :=
  laidMetH_of_parts (laidMet_nil _ _) (by kernel_rfl)

theorem rep_err {W : World} (h : W.cell? ⟨1, 0, none⟩ = some (.iface 189 (.agg #[.pointer (some ⟨8, 28, none⟩)]))) :
    ∀ g cs, gErr.glob g = some cs → RepC W noOwn g 0 cs := by
  intro g cs hg
  simp only [gErr] at hg
  split at hg
  · rename_i hb
    have hb := Nat.eq_of_beq_eq_true hb
    subst hb
    cases hg
    intro j x hx
    match j, hx with
    | 0, hx =>
      cases hx
      refine ⟨_, ⟨h, fun ow n h => (by cases h), rfl⟩, .ifc _ _ _ (.agg _ _ rfl (fun j hj => ?_) (fun j x hx => ?_))⟩
      · match j, hj with
        | 0, _ => rfl
      · match j, hx with
        | 0, hx => cases hx; exact .rt _ _
  · cases hg
end Go.Proofs.YtjmcgdhekjkjfaaDoor
