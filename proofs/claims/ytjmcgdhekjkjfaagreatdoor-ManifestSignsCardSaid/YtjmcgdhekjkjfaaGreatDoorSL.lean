/- What the reference's bytes and Write hand back. -/
import Derived.Test.YtjmcgdhekjkjfaaGreatDoorSK
import Derived.Test.YtjmcgdhekjkjfaaGreatDoorSE
import Derived.Test.YtjmcgdhekjkjfaaGreatDoorSG
import Derived.Test.YtjmcgdhekjkjfaaGreatDoorSH
import Derived.Test.YtjmcgdhekjkjfaaGreatDoorSJ
import Derived.Test.YtjmcgdhekjkjfaaGreatDoorVMS
set_option linter.unusedSimpArgs false
set_option linter.unusedVariables false
namespace Go.Proofs.YtjmcgdhekjkjfaaGreatDoor
open Go Go.VM
variable {G : GE}
set_option maxRecDepth 100000
set_option maxHeartbeats 4000000
theorem t_bytes (F : Nat) (hF : F ≤ 140737488355328) (B : Nat) (hB : B < F) : ∀ (d n : Nat) (x : Tlv), x.depth ≤ d → x.width B → x.fine = true → x.enc.length < 16777216 →
    callN (envG G) F (n + d) 49 [.d (.agg x.cells)] = some ⟨[.d (.nums .u8 false x.enc)], [0]⟩ := by
  intro d
  induction d with
  | zero => intro n x hd; cases x; simp [Tlv.depth] at hd
  | succ d ih =>
    intro n x hd hw hfi hen
    obtain ⟨c, t, m, bn, b, kn, ks⟩ := x
    simp only [Tlv.depth] at hd
    simp only [Tlv.width] at hw
    have hkl : ks.length ≤ B := hw.2.1
    simp only [Tlv.fine, Bool.and_eq_true, decide_eq_true_eq] at hfi
    obtain ⟨⟨c0, c3, t0, t30, _, _⟩, hfl⟩ := hfi
    simp only [Tlv.enc, headB, List.length_append, List.length_cons] at hen
    simp only [Tlv.enc, headB, Tlv.cells]
    obtain ⟨o, ho⟩ : ∃ o, o = b ++ Tlv.encL ks := ⟨_, rfl⟩
    have hlo : o.length = b.length + (Tlv.encL ks).length := by rw [ho]; simp
    rw [← ho]
    rw [show n + (d + 1) = n + d + 1 by omega]
    rw [callN_run (fn := Tryz.f49) rfl rfl rfl (by simp [Tryz.ntmps49])]
    generalize hC : (envG G).ctx 49 (callN (envG G) F (n+d)) (callP (envG G) F (n+d)) = C
    have htt : C.tt = (envG G).tt := by rw [← hC]; rfl
    have hlin : C.lin = [39, 11, 82, 79, 66, 55, 48, 6, 26, 3, 2, 8, 19, 44, 51, 58, 67, 80] := by rw [← hC]; rfl
    have hreg : C.reg = reg49 := by rw [← hC]; rfl
    have hcall : C.call = callN (envG G) F (n+d) := by rw [← hC]; rfl
    have hcallP : C.callP = callP (envG G) F (n+d) := by rw [← hC]; rfl
    have hlv_3 : C.live 3 = [1, 3, 4] := by rw [← hC]; rfl
    have hlv_100003 : C.live 100003 = [1, 2, 3] := by rw [← hC]; rfl
    have hL := fun st h => loop_bytes (G := G) hC rfl (.int .i64 c) (.int .i64 t) (.bool m) (.nums .u8 bn b) kn ks (by omega)
      (fun x hx => ih n x (by have := depthL_mem hx; omega) (widthL_mem hw.2.2 hx) (fineL_mem hfl hx) (by have := enc_mem hx; omega)) ks 0 F b st rfl (by omega) (by omega) (by omega) h
    rw [← ho] at hL
    clear hC ih
    unfold tlvK' at hL
    simp at hL
    have hbl : b.length ≤ 140737488355327 := by omega
    have hbl2 : b.length ≤ 140737488355328 := by omega
    have e1 : 64 * c ≤ 9223372036854775807 := by omega
    have e2 : -9223372036854775808 ≤ 64 * c := by omega
    have e3 : 64 * c + t ≤ 9223372036854775807 := by omega
    have e4 : -9223372036854775808 ≤ 64 * c + t := by omega
    have e5 : 64 * c + t + 32 ≤ 9223372036854775807 := by omega
    have e6 : -9223372036854775808 ≤ 64 * c + t + 32 := by omega
    have e7 : 0 ≤ 64 * c + t := by omega
    have e8 : 64 * c + t ≤ 255 := by omega
    have e9 : 0 ≤ 64 * c + t + 32 := by omega
    have e10 : 64 * c + t + 32 ≤ 255 := by omega
    simp [htt, hlin, hreg, reg49, hcall, hcallP, hlv_3, hlv_100003, ev_loop, hbl, hbl2]
    rw [hL _ (by simp)]
    have hNl : o.length < 16777216 := by omega
    clear ho hlo
    have q1 : (o.length : Int).tdiv 256 = (o.length : Int) / 256 := Int.tdiv_eq_ediv_of_nonneg (by omega)
    have q2 : (o.length : Int).tmod 256 = (o.length : Int) % 256 := Int.tmod_eq_emod_of_nonneg (by omega)
    have q3 : (o.length : Int).tdiv 65536 = (o.length : Int) / 65536 := Int.tdiv_eq_ediv_of_nonneg (by omega)
    have q4 : ((o.length : Int) / 256).tmod 256 = (o.length : Int) / 256 % 256 := Int.tmod_eq_emod_of_nonneg (by omega)
    have l1 : o.length + 1 ≤ 140737488355328 := by omega
    have l2 : o.length + 5 ≤ 140737488355328 := by omega
    have l3 : 1 + 1 + o.length ≤ 140737488355328 := by omega
    have l4 : o.length ≤ 140737488355327 := by omega
    have l5 : o.length ≤ 140737488355328 := by omega
    have l6 : 2 + o.length ≤ 140737488355328 := by omega
    have l7 : 3 + o.length ≤ 140737488355328 := by omega
    have l8 : 4 + o.length ≤ 140737488355328 := by omega
    have l9 : 5 + o.length ≤ 140737488355328 := by omega
    have w1 : (o.length : Int) / 256 ≤ 9223372036854775807 := by omega
    have w2 : (-9223372036854775808 : Int) ≤ (o.length : Int) / 256 := by omega
    have w3 : (o.length : Int) % 256 ≤ 9223372036854775807 := by omega
    have w4 : (-9223372036854775808 : Int) ≤ (o.length : Int) % 256 := by omega
    have w5 : (o.length : Int) / 65536 ≤ 9223372036854775807 := by omega
    have w6 : (-9223372036854775808 : Int) ≤ (o.length : Int) / 65536 := by omega
    have w7 : (o.length : Int) / 256 % 256 ≤ 9223372036854775807 := by omega
    have w8 : (-9223372036854775808 : Int) ≤ (o.length : Int) / 256 % 256 := by omega
    have u1 : 0 ≤ (o.length : Int) % 256 := by omega
    have u2 : (o.length : Int) % 256 ≤ 255 := by omega
    have u3 : 0 ≤ (o.length : Int) / 256 % 256 := by omega
    have u4 : (o.length : Int) / 256 % 256 ≤ 255 := by omega
    have u5 : 0 ≤ (o.length : Int) / 65536 := by omega
    have u6 : (o.length : Int) / 65536 ≤ 255 := by omega
    have u7 : 0 ≤ (o.length : Int) / 256 := by omega
    unfold sizeB
    by_cases s1 : o.length < 128
    · have s1' : (o.length : Int) < 128 := by omega
      have s1'' : (o.length : Int) ≤ 255 := by omega
      rw [if_pos s1]
      cases m <;> simp [htt, hlin, hreg, reg49, hcall, hcallP, hlv_3, hlv_100003, e1, e2, e3, e4, e5, e6, e7, e8, e9, e10, s1', s1'', l1, l2, l3, l4, l5, l6]
    · have s1' : ¬ (o.length : Int) < 128 := by omega
      rw [if_neg s1]
      by_cases s2 : o.length < 256
      · have s2' : (o.length : Int) < 256 := by omega
        have s2'' : (o.length : Int) ≤ 255 := by omega
        rw [if_pos s2]
        cases m <;> simp [htt, hlin, hreg, reg49, hcall, hcallP, hlv_3, hlv_100003, e1, e2, e3, e4, e5, e6, e7, e8, e9, e10, s1', s2', s2'', l1, l2, l3, l4, l5, l7]
      · have s2' : ¬ (o.length : Int) < 256 := by omega
        rw [if_neg s2]
        by_cases s3 : o.length < 65536
        · have s3' : (o.length : Int) < 65536 := by omega
          have u8 : (o.length : Int) / 256 ≤ 255 := by omega
          rw [if_pos s3]
          cases m <;> simp [htt, hlin, hreg, reg49, hcall, hcallP, hlv_3, hlv_100003, e1, e2, e3, e4, e5, e6, e7, e8, e9, e10, s1', s2', s3', l1, l2, l3, l4, l5, l8, q1, q2, w1, w2, w3, w4, u1, u2, u7, u8]
        · have s3' : ¬ (o.length : Int) < 65536 := by omega
          rw [if_neg s3]
          cases m <;> simp [htt, hlin, hreg, reg49, hcall, hcallP, hlv_3, hlv_100003, e1, e2, e3, e4, e5, e6, e7, e8, e9, e10, s1', s2', s3', l1, l2, l3, l4, l5, l9, q1, q2, q3, q4, w1, w2, w3, w4, w5, w6, w7, w8, u1, u2, u3, u4, u5, u6]
theorem t_rWrite (F : Nat) (hF : F ≤ 140737488355328) (B : Nat) (hB : B < F) (d n : Nat) (x : Tlv) (hd0 : d ≤ 1000000) (hd : x.depth ≤ d) (hw : x.width B) (hen : x.enc.length < 16777216) :
    callN (envG G) F (n + d + 1) 24 [.d (.agg x.cells)] = some ⟨[.d (if badW x = 0 then .nums .u8 false x.enc else .nums .u8 true []), .d (.int .i64 (badW x))], []⟩ := by
  have k1 := t_rfine (G := G) F hF B hB d n x hd hw
  have k2 := t_rdepth (G := G) F hF B hB d n x hd0 hd hw
  have k3 := fun h => t_bytes (G := G) F hF B hB d n x hd hw h hen
  unfold badW
  obtain ⟨c, t, m, bn, b, kn, ks⟩ := x
  simp only [Tlv.cells] at k1 k2 k3 ⊢
  generalize hx : Tlv.mk c t m bn b kn ks = x at *
  rw [callN_run (fn := Tryz.f24) rfl rfl rfl (by simp [Tryz.ntmps24])]
  generalize hC : (envG G).ctx 24 (callN (envG G) F (n+d)) (callP (envG G) F (n+d)) = C
  have htt : C.tt = (envG G).tt := by rw [← hC]; rfl
  have hlin : C.lin = [] := by rw [← hC]; rfl
  have hreg : C.reg = reg24 := by rw [← hC]; rfl
  have hcall : C.call = callN (envG G) F (n+d) := by rw [← hC]; rfl
  have hcallP : C.callP = callP (envG G) F (n+d) := by rw [← hC]; rfl
  cases hf : x.fine with
  | false =>
    rw [hf] at k1
    simp [htt, hlin, hreg, reg24, hcall, hcallP, k1]
  | true =>
    rw [hf] at k1
    have k3' := k3 hf
    by_cases h16 : 16 < x.depth
    · have h16' : (16 : Int) < x.depth := by omega
      simp [htt, hlin, hreg, reg24, hcall, hcallP, k1, k2, h16, h16']
    · have h16' : ¬ (16 : Int) < x.depth := by omega
      by_cases hl : 1048576 < x.enc.length
      · have hl' : (1048576 : Int) < x.enc.length := by omega
        simp [htt, hlin, hreg, reg24, hcall, hcallP, k1, k2, k3', h16, h16', hl, hl']
      · have hl' : ¬ (1048576 : Int) < x.enc.length := by omega
        simp [htt, hlin, hreg, reg24, hcall, hcallP, k1, k2, k3', h16, h16', hl, hl']
end Go.Proofs.YtjmcgdhekjkjfaaGreatDoor
set_option linter.unusedSimpArgs false
set_option linter.unusedVariables false
namespace Go.Proofs.YtjmcgdhekjkjfaaGreatDoor
open Go Go.VM
variable {G : GE}
set_option maxRecDepth 100000
set_option maxHeartbeats 4000000
theorem loop_rnumof {m : Nat} {C : Ctx} {F : Nat} (hC : (envG G).ctx 55 (callN (envG G) F (m)) (callP (envG G) F (m)) = C) {c : Code} (hc : loopAt 2 Tryz.f55 = some c) (nl : Bool) (xs : List Int) (hx : xs.length ≤ 140737488355328) (os : List Pl) (hos : os = [] ∨ os = [.t 0]) :
    ∀ (ys : List Int) (i k : Nat) (st : St), xs.drop i = ys → i ≤ xs.length → ys.length < k → st.trim 0 [0, 4] = ⟨[(0, .d (.nums .u8 nl xs)), (4, .d (.int .i64 i))], [], os⟩ →
      iter (ev C F c) 0 [0, 4] [0, 2, 3, 4] k st = some (.exit 0, ⟨[(0, .d (.nums .u8 nl xs)), (4, .d (.int .i64 (i + lead ys : Nat)))], [], os⟩) := by
  have htt : C.tt = (envG G).tt := by rw [← hC]; rfl
  have hlin : C.lin = [23, 5, 39, 38, 3, 2, 19, 36] := by rw [← hC]; rfl
  have hreg : C.reg = reg55 := by rw [← hC]; rfl
  have hcall : C.call = callN (envG G) F (m) := by rw [← hC]; rfl
  have hcallP : C.callP = callP (envG G) F (m) := by rw [← hC]; rfl
  have hlv_2 : C.live 2 = [0, 4] := by rw [← hC]; rfl
  have hlv_100002 : C.live 100002 = [0, 2, 3, 4] := by rw [← hC]; rfl
  have hev : ∀ st, ev C F c st = ev C F ((loopAt 2 Tryz.f55).getD .skip) st := fun st => by rw [hc]; rfl
  intro ys
  induction ys with
  | nil =>
    intro i k st hd hi hk hst
    obtain ⟨k, rfl⟩ : ∃ j, k = j + 1 := ⟨k - 1, by simp at hk; omega⟩
    have h0 := drop_nil hd
    have e0 : ¬ ((i : Int) < (xs.length : Int)) := by omega
    rw [iter_eq, hst, hev]
    rcases hos with rfl | rfl <;> simp [loopAt, findLoop, Tryz.f55, htt, hlin, hreg, reg55, hcall, hcallP, hlv_2, hlv_100002, e0, lead]
  | cons b t ih =>
    intro i k st hd hi hk hst
    obtain ⟨k, rfl⟩ : ∃ j, k = j + 1 := ⟨k - 1, by simp at hk; omega⟩
    simp at hk
    obtain ⟨ht, hlt⟩ := drop_succ hd
    have hb := at_of_drop hd
    have e0 : (i : Int) < (xs.length : Int) := by omega
    have e1 : (i : Int) + 1 ≤ 9223372036854775807 := by omega
    have e2 : (-9223372036854775808 : Int) ≤ (i : Int) + 1 := by omega
    rw [iter_eq, hst, hev]
    by_cases h : b = 0
    · subst h
      have ih' := fun st h => ih (i + 1) k st ht (by omega) hk h
      rw [show i + 1 + lead t = i + (lead t + 1) by omega] at ih'
      simp at ih'
      rcases hos with rfl | rfl
      · simp [loopAt, findLoop, Tryz.f55, htt, hlin, hreg, reg55, hcall, hcallP, hlv_2, hlv_100002, e0, hb, e1, e2, lead]
        exact ih' _ (by simp)
      · simp [loopAt, findLoop, Tryz.f55, htt, hlin, hreg, reg55, hcall, hcallP, hlv_2, hlv_100002, e0, hb, e1, e2, lead]
        exact ih' _ (by simp)
    · rcases hos with rfl | rfl <;> simp [loopAt, findLoop, Tryz.f55, htt, hlin, hreg, reg55, hcall, hcallP, hlv_2, hlv_100002, e0, hb, h, lead]
theorem t_rNumberOf (F n : Nat) (nl : Bool) (xs : List Int) (hx : xs.length ≤ 140737488355327) (hf : xs.length < F) : callN (envG G) F (n+1) 55 [.d (.nums .u8 nl xs)] = some (match numberOf xs with
    | .inl e => ⟨[.d (.nums .u8 true []), .d (.int .i64 e)], [0]⟩
    | .inr ys => ⟨[.d (.nums .u8 false ys), .d (.int .i64 0)], [0]⟩) := by
  rw [callN_run (fn := Tryz.f55) rfl rfl rfl (by simp [Tryz.ntmps55])]
  generalize hC : (envG G).ctx 55 (callN (envG G) F (n)) (callP (envG G) F (n)) = C
  have htt : C.tt = (envG G).tt := by rw [← hC]; rfl
  have hlin : C.lin = [23, 5, 39, 38, 3, 2, 19, 36] := by rw [← hC]; rfl
  have hreg : C.reg = reg55 := by rw [← hC]; rfl
  have hcall : C.call = callN (envG G) F (n) := by rw [← hC]; rfl
  have hcallP : C.callP = callP (envG G) F (n) := by rw [← hC]; rfl
  have hlv_2 : C.live 2 = [0, 4] := by rw [← hC]; rfl
  have hlv_100002 : C.live 100002 = [0, 2, 3, 4] := by rw [← hC]; rfl
  have hL := fun os hos st h => loop_rnumof (G := G) hC rfl nl xs (by omega) os hos xs 0 F st rfl (by omega) hf h
  simp only [Nat.zero_add] at hL
  have hs := strip_len xs
  have hle := lead_le xs
  have e1 : (lead xs : Int) ≤ xs.length := by omega
  unfold numberOf
  clear hC
  simp [htt, hlin, hreg, reg55, hcall, hcallP, hlv_2, hlv_100002, ev_loop]
  rw [hL [] (.inl rfl) _ (by simp)]
  cases hsx : strip xs with
  | nil =>
    simp [htt, hlin, hreg, reg55, hcall, hcallP, hlv_2, hlv_100002, hsx, e1, drop_lead]
  | cons b t =>
    rw [hsx] at hs
    simp at hs
    have e6 : t.length + 1 ≤ 140737488355328 := by omega
    have e8 : t.length ≤ 140737488355327 := by omega
    by_cases h1 : 64 < t.length + 1
    · have e5 : (64 : Int) < (t.length : Int) + 1 := by omega
      simp [htt, hlin, hreg, reg55, hcall, hcallP, hlv_2, hlv_100002, hsx, e1, drop_lead, h1, e5, e6, e8]
    · have e5 : ¬ ((64 : Int) < (t.length : Int) + 1) := by omega
      have e2 : ¬ ((t.length : Int) + 1 = 0) := by omega
      have e7 : 1 + (t.length + 1) ≤ 140737488355328 := by omega
      by_cases h2 : 128 ≤ b
      · have h2' : 127 < b := by omega
        simp [htt, hlin, hreg, reg55, hcall, hcallP, hlv_2, hlv_100002, hsx, e1, drop_lead, h1, e5, e6, e2, h2, h2', e7, e8]
      · have h2' : ¬ 127 < b := by omega
        simp [htt, hlin, hreg, reg55, hcall, hcallP, hlv_2, hlv_100002, hsx, e1, drop_lead, h1, e5, e6, e2, h2, h2', e7, e8]
end Go.Proofs.YtjmcgdhekjkjfaaGreatDoor
set_option linter.unusedSimpArgs false
set_option linter.unusedVariables false
namespace Go.Proofs.YtjmcgdhekjkjfaaGreatDoor
open Go Go.VM
variable {G : GE}
set_option maxRecDepth 100000
set_option maxHeartbeats 8000000
theorem chain6 (a0 a1 a2 a3 a4 a5 c0 c1 c2 c3 c4 c5 : Int) : (bif a0 == c0 then (bif a1 == c1 then (bif a2 == c2 then (bif a3 == c3 then (bif a4 == c4 then (bif a5 == c5 then some true else some false) else some false) else some false) else some false) else some false) else some false) = some (decide (a0 = c0) && decide (a1 = c1) && decide (a2 = c2) && decide (a3 = c3) && decide (a4 = c4) && decide (a5 = c5)) := by
  have e : ∀ x y : Int, (x == y) = decide (x = y) := fun x y => by by_cases h : x = y <;> simp [h]
  simp only [e]
  cases decide (a0 = c0) <;> cases decide (a1 = c1) <;> cases decide (a2 = c2) <;> cases decide (a3 = c3) <;> cases decide (a4 = c4) <;> cases decide (a5 = c5) <;> rfl
theorem sig_eq {C : Ctx} (htt : C.tt = (envG G).tt) (ox oy : Operand) (a0 a1 a2 a3 a4 a5 b0 b1 b2 b3 b4 b5 c0 c1 c2 c3 c4 c5 d0 d1 d2 d3 d4 d5 : Int) :
    eqK C 28 (.struct [(0, 26), (6, 26)]) true ox oy (.d (.agg [.int .u64 a0, .int .u64 a1, .int .u64 a2, .int .u64 a3, .int .u64 a4, .int .u64 a5, .int .u64 b0, .int .u64 b1, .int .u64 b2, .int .u64 b3, .int .u64 b4, .int .u64 b5])) (.d (.agg [.int .u64 c0, .int .u64 c1, .int .u64 c2, .int .u64 c3, .int .u64 c4, .int .u64 c5, .int .u64 d0, .int .u64 d1, .int .u64 d2, .int .u64 d3, .int .u64 d4, .int .u64 d5])) = some ((decide (a0 = c0) && decide (a1 = c1) && decide (a2 = c2) && decide (a3 = c3) && decide (a4 = c4) && decide (a5 = c5)) && (decide (b0 = d0) && decide (b1 = d1) && decide (b2 = d2) && decide (b3 = d3) && decide (b4 = d4) && decide (b5 = d5))) := by
  have h : eqK C 28 (.struct [(0, 26), (6, 26)]) true ox oy (.d (.agg [.int .u64 a0, .int .u64 a1, .int .u64 a2, .int .u64 a3, .int .u64 a4, .int .u64 a5, .int .u64 b0, .int .u64 b1, .int .u64 b2, .int .u64 b3, .int .u64 b4, .int .u64 b5])) (.d (.agg [.int .u64 c0, .int .u64 c1, .int .u64 c2, .int .u64 c3, .int .u64 c4, .int .u64 c5, .int .u64 d0, .int .u64 d1, .int .u64 d2, .int .u64 d3, .int .u64 d4, .int .u64 d5])) =
      (match (bif a0 == c0 then (bif a1 == c1 then (bif a2 == c2 then (bif a3 == c3 then (bif a4 == c4 then (bif a5 == c5 then some true else some false) else some false) else some false) else some false) else some false) else some false) with
        | some x => bif x then (match (bif b0 == d0 then (bif b1 == d1 then (bif b2 == d2 then (bif b3 == d3 then (bif b4 == d4 then (bif b5 == d5 then some true else some false) else some false) else some false) else some false) else some false) else some false) with
          | some y => bif y then some true else some false
          | none => none) else some false
        | none => none) := by
    cases C
    cases htt
    kernel_rfl
  rw [h, chain6, chain6]
  generalize (decide (a0 = c0) && decide (a1 = c1) && decide (a2 = c2) && decide (a3 = c3) && decide (a4 = c4) && decide (a5 = c5)) = x
  generalize (decide (b0 = d0) && decide (b1 = d1) && decide (b2 = d2) && decide (b3 = d3) && decide (b4 = d4) && decide (b5 = d5)) = y
  cases x <;> cases y <;> rfl
end Go.Proofs.YtjmcgdhekjkjfaaGreatDoor
set_option linter.unusedSimpArgs false
set_option linter.unusedVariables false
namespace Go.Proofs.YtjmcgdhekjkjfaaGreatDoor
open Go Go.VM
variable {G : GE}
set_option maxRecDepth 100000
set_option maxHeartbeats 4000000
theorem t_lBytes (F n : Nat) (hF : 60 ≤ F) (a0 a1 a2 a3 a4 a5 : Int) : callN (envG G) F (n+3) 92 [.d (limbD [a0, a1, a2, a3, a4, a5])] = some ⟨[.d (.nums .u8 false (B6 [a0, a1, a2, a3, a4, a5]))], [0]⟩ :=
  callN_mono hF (show 3 ≤ n + 3 by omega) (run_Bytes (G := G) a0 a1 a2 a3 a4 a5)
theorem t_rBytes (F n : Nat) (hF : 60 ≤ F) {a : List Int} (ha : In64 a) (hl : a.length = 6) : callN (envG G) F (n+3) 56 [.d (.nums .u64 false (trimL (halves a))), .d (.int .i64 48)] = some ⟨[.d (.nums .u8 false (B6 a))], [0]⟩ := by
  have h1 := trimL_len (halves a)
  have h2 := cutL_le (halves a) (halves a).length
  have h3 : (halves a).length = 12 := by
    obtain ⟨a0, a1, a2, a3, a4, a5, rfl⟩ := six hl
    rfl
  have k := callN_mono hF (show 3 ≤ n + 3 by omega) (run_rBytes (G := G) (fun j => (halves a).getD j 0) (trimL (halves a)).length (by omega))
  rw [← trim_map, rbytes_eq ha] at k
  exact k
theorem t_number (F n : Nat) (hF : 60 ≤ F) (a0 a1 a2 a3 a4 a5 : Int) : callN (envG G) F (n+4) 75 [.d (limbD [a0, a1, a2, a3, a4, a5])] = some ⟨[.d (.agg (nT (bodyN [a0, a1, a2, a3, a4, a5])).cells), .d .nilifc], []⟩ := by
  have k1 := t_lBytes (G := G) F n hF a0 a1 a2 a3 a4 a5
  have k2 := t_NumberOf (G := G) F (n+1) false (B6 [a0, a1, a2, a3, a4, a5]) (by simp) (by rw [B6_len]; omega)
  rw [numberOf_B6] at k2
  simp only at k2
  simp only [nT, Tlv.cells, Tlv.cellsL]
  generalize bodyN [a0, a1, a2, a3, a4, a5] = ys at *
  generalize B6 [a0, a1, a2, a3, a4, a5] = bs at *
  simp only [limbD, List.map] at *
  rw [callN_run (fn := Tryz.f75) rfl rfl rfl (by simp [Tryz.ntmps75])]
  generalize hC : (envG G).ctx 75 (callN (envG G) F (n+3)) (callP (envG G) F (n+3)) = C
  have htt : C.tt = (envG G).tt := by rw [← hC]; rfl
  have hlin : C.lin = [] := by rw [← hC]; rfl
  have hreg : C.reg = reg75 := by rw [← hC]; rfl
  have hcall : C.call = callN (envG G) F (n+3) := by rw [← hC]; rfl
  have hcallP : C.callP = callP (envG G) F (n+3) := by rw [← hC]; rfl
  clear hC
  simp [htt, hlin, hreg, reg75, hcall, hcallP, k1, k2]
theorem t_eEncode (hK : SubK G) (hg : GroupG G) (F : Nat) (hF : 1048580 < F) (hF2 : F ≤ 140737488355328) (n : Nat) (a0 a1 a2 a3 a4 a5 b0 b1 b2 b3 b4 b5 : Int) (ha : In64 [a0, a1, a2, a3, a4, a5]) (hb : In64 [b0, b1, b2, b3, b4, b5]) :
    callN (envG G) F (n + 70) 50 [.d (sigD [a0, a1, a2, a3, a4, a5] [b0, b1, b2, b3, b4, b5])] = some (if isScalar [a0, a1, a2, a3, a4, a5] = true ∧ isScalar [b0, b1, b2, b3, b4, b5] = true then ⟨[.d (.nums .u8 false (sigT [a0, a1, a2, a3, a4, a5] [b0, b1, b2, b3, b4, b5]).enc), .d .nilifc], [0]⟩ else ⟨[.d (.nums .u8 true []), .d (err 3)], []⟩) := by
  have k1 : callN (envG G) F (n + 69) _ _ = _ := t_eScalar (G := G) hK hg F (n + 65) (by omega) a0 a1 a2 a3 a4 a5 ha
  have k2 : callN (envG G) F (n + 69) _ _ = _ := t_eScalar (G := G) hK hg F (n + 65) (by omega) b0 b1 b2 b3 b4 b5 hb
  have k3 : callN (envG G) F (n + 69) _ _ = _ := t_number (G := G) F (n + 65) (by omega) a0 a1 a2 a3 a4 a5
  have k4 : callN (envG G) F (n + 69) _ _ = _ := t_number (G := G) F (n + 65) (by omega) b0 b1 b2 b3 b4 b5
  obtain ⟨t1, t2, t3, t4⟩ := sigT_ok ha hb
  have hw := weight_width (W := 1048576) (sigT [a0, a1, a2, a3, a4, a5] [b0, b1, b2, b3, b4, b5]) (by omega)
  have hle := enc_le (sigT [a0, a1, a2, a3, a4, a5] [b0, b1, b2, b3, b4, b5])
  have hbw : badW (sigT [a0, a1, a2, a3, a4, a5] [b0, b1, b2, b3, b4, b5]) = 0 := by
    unfold badW
    rw [if_neg (by simp [t1]), if_neg (by omega), if_neg (by omega)]
  have k5 : callN (envG G) F (n + 69) _ _ = _ := t_Write (G := G) F hF2 1048576 (by omega) (by omega) 16 (n + 3) (sigT [a0, a1, a2, a3, a4, a5] [b0, b1, b2, b3, b4, b5]) (by omega) t2 hw
  rw [hbw] at k5
  simp only [if_true, errD] at k5
  generalize (sigT [a0, a1, a2, a3, a4, a5] [b0, b1, b2, b3, b4, b5]).enc = en at *
  clear t1 t2 t3 t4 hw hle hbw ha hb hK hg
  simp only [sigT, nT, Tlv.cells, Tlv.cellsL] at *
  generalize bodyN [a0, a1, a2, a3, a4, a5] = u at *
  generalize bodyN [b0, b1, b2, b3, b4, b5] = w at *
  generalize isScalar [a0, a1, a2, a3, a4, a5] = sa at *
  generalize isScalar [b0, b1, b2, b3, b4, b5] = sb at *
  simp only [limbD, sigD, List.map, List.cons_append, List.nil_append] at *
  cases sa
  · skip
    rw [callN_run (fn := Tryz.f50) rfl rfl rfl (by simp [Tryz.ntmps50])]
    generalize hC : (envG G).ctx 50 (callN (envG G) F (n+69)) (callP (envG G) F (n+69)) = C
    have htt : C.tt = (envG G).tt := by rw [← hC]; rfl
    have hlin : C.lin = [] := by rw [← hC]; rfl
    have hreg : C.reg = reg50 := by rw [← hC]; rfl
    have hcall : C.call = callN (envG G) F (n+69) := by rw [← hC]; rfl
    have hcallP : C.callP = callP (envG G) F (n+69) := by rw [← hC]; rfl
    clear hC
    unfold err
    simp [htt, hlin, hreg, reg50, hcall, hcallP, k1]
  · cases sb
    · skip
      rw [callN_run (fn := Tryz.f50) rfl rfl rfl (by simp [Tryz.ntmps50])]
      generalize hC : (envG G).ctx 50 (callN (envG G) F (n+69)) (callP (envG G) F (n+69)) = C
      have htt : C.tt = (envG G).tt := by rw [← hC]; rfl
      have hlin : C.lin = [] := by rw [← hC]; rfl
      have hreg : C.reg = reg50 := by rw [← hC]; rfl
      have hcall : C.call = callN (envG G) F (n+69) := by rw [← hC]; rfl
      have hcallP : C.callP = callP (envG G) F (n+69) := by rw [← hC]; rfl
      clear hC
      unfold err
      simp [htt, hlin, hreg, reg50, hcall, hcallP, k1, k2]
    · skip
      rw [callN_run (fn := Tryz.f50) rfl rfl rfl (by simp [Tryz.ntmps50])]
      generalize hC : (envG G).ctx 50 (callN (envG G) F (n+69)) (callP (envG G) F (n+69)) = C
      have htt : C.tt = (envG G).tt := by rw [← hC]; rfl
      have hlin : C.lin = [] := by rw [← hC]; rfl
      have hreg : C.reg = reg50 := by rw [← hC]; rfl
      have hcall : C.call = callN (envG G) F (n+69) := by rw [← hC]; rfl
      have hcallP : C.callP = callP (envG G) F (n+69) := by rw [← hC]; rfl
      clear hC
      simp [htt, hlin, hreg, reg50, hcall, hcallP, k1, k2, k3, k4, k5]
end Go.Proofs.YtjmcgdhekjkjfaaGreatDoor
set_option linter.unusedSimpArgs false
set_option linter.unusedVariables false
namespace Go.Proofs.YtjmcgdhekjkjfaaGreatDoor
open Go Go.VM
variable {G : GE}
set_option maxRecDepth 100000
set_option maxHeartbeats 4000000
theorem bits_none {x1 x2 : Int} {x3 x4 : Bool} {x5 : List Int} {x6 : Bool} {x7 : List Tlv} (h : ∀ t, x5 ≠ 0 :: t) : Tlv.bits (.mk x1 x2 x3 x4 x5 x6 x7) = none := by
  unfold Tlv.bits
  split
  · rename_i heq
    cases heq
    exact absurd rfl (h _)
  · rfl
theorem dec_zero (x5 : List Int) : (∃ t, x5 = 0 :: t) ∨ ∀ t, x5 ≠ 0 :: t := by
  rcases x5 with _ | ⟨x, t⟩
  · exact .inr (by simp)
  · by_cases h : x = 0
    · exact .inl ⟨t, by rw [h]⟩
    · exact .inr fun u hu => h (by injection hu)
theorem t_BitsOf (F n : Nat) (x : Tlv) (h : x.plainOk) : ∃ nl ys, callN (envG G) F (n+3) 35 [.d (.agg x.cells)] = some ⟨[.d (.nums .u8 nl ys), .d (.bool x.bits.isSome)], []⟩ ∧ (nl = true → ys = []) ∧ ∀ t, x.bits = some t → ys = t := by
  obtain ⟨x1, x2, x3, x4, x5, x6, x7⟩ := x
  simp only [Tlv.plainOk] at h
  have kp := t_IsPlain (G := G) F (n+1) x1 x2 x3 x4 x5 x6 x7 3
  simp only [Tlv.cells]
  by_cases hc : x1 = 0 ∧ x2 = 3 ∧ x3 = false
  · rw [decide_eq_true hc] at kp
    rcases dec_zero x5 with ⟨t, rfl⟩ | h0
    · have hnf : x4 = false := by cases x4 with | false => rfl | true => cases h.1 rfl
      subst hnf
      have hl := h.2.1
      simp only [List.length_cons] at hl
      have kb := t_primBits0 (G := G) F n t (by omega)
      have hb : Tlv.bits (.mk x1 x2 x3 false (0 :: t) x6 x7) = some t := by simp [Tlv.bits, hc]
      refine ⟨false, t, ?_, by simp, by rw [hb]; simp⟩
      rw [hb]
      rw [callN_run (fn := Tryz.f35) rfl rfl rfl (by simp [Tryz.ntmps35])]
      generalize hC : (envG G).ctx 35 (callN (envG G) F (n+2)) (callP (envG G) F (n+2)) = C
      have htt : C.tt = (envG G).tt := by rw [← hC]; rfl
      have hlin : C.lin = [] := by rw [← hC]; rfl
      have hreg : C.reg = reg35 := by rw [← hC]; rfl
      have hcall : C.call = callN (envG G) F (n+2) := by rw [← hC]; rfl
      have hcallP : C.callP = callP (envG G) F (n+2) := by rw [← hC]; rfl
      clear hC
      simp [htt, hlin, hreg, reg35, hcall, hcallP, kp, kb]
    · rw [bits_none h0]
      rcases t_primBits1 (G := G) F n x4 x5 h.1 (by have := h.2.1; omega) h.2.2 h0 with ⟨e, kb⟩ | ⟨ys, k, hk, kb⟩
      · refine ⟨true, [], ?_, by simp, by simp⟩
        unfold err at kb
        rw [callN_run (fn := Tryz.f35) rfl rfl rfl (by simp [Tryz.ntmps35])]
        generalize hC : (envG G).ctx 35 (callN (envG G) F (n+2)) (callP (envG G) F (n+2)) = C
        have htt : C.tt = (envG G).tt := by rw [← hC]; rfl
        have hlin : C.lin = [] := by rw [← hC]; rfl
        have hreg : C.reg = reg35 := by rw [← hC]; rfl
        have hcall : C.call = callN (envG G) F (n+2) := by rw [← hC]; rfl
        have hcallP : C.callP = callP (envG G) F (n+2) := by rw [← hC]; rfl
        clear hC
        simp [htt, hlin, hreg, reg35, hcall, hcallP, kp, kb]
      · refine ⟨false, ys, ?_, by simp, by simp⟩
        rw [callN_run (fn := Tryz.f35) rfl rfl rfl (by simp [Tryz.ntmps35])]
        generalize hC : (envG G).ctx 35 (callN (envG G) F (n+2)) (callP (envG G) F (n+2)) = C
        have htt : C.tt = (envG G).tt := by rw [← hC]; rfl
        have hlin : C.lin = [] := by rw [← hC]; rfl
        have hreg : C.reg = reg35 := by rw [← hC]; rfl
        have hcall : C.call = callN (envG G) F (n+2) := by rw [← hC]; rfl
        have hcallP : C.callP = callP (envG G) F (n+2) := by rw [← hC]; rfl
        clear hC
        simp [htt, hlin, hreg, reg35, hcall, hcallP, kp, kb, hk]
  · rw [decide_eq_false hc] at kp
    have hb : Tlv.bits (.mk x1 x2 x3 x4 x5 x6 x7) = none := by
      rcases dec_zero x5 with ⟨t, rfl⟩ | h0
      · simp [Tlv.bits, hc]
      · exact bits_none h0
    rw [hb]
    refine ⟨true, [], ?_, by simp, by simp⟩
    rw [callN_run (fn := Tryz.f35) rfl rfl rfl (by simp [Tryz.ntmps35])]
    generalize hC : (envG G).ctx 35 (callN (envG G) F (n+2)) (callP (envG G) F (n+2)) = C
    have htt : C.tt = (envG G).tt := by rw [← hC]; rfl
    have hlin : C.lin = [] := by rw [← hC]; rfl
    have hreg : C.reg = reg35 := by rw [← hC]; rfl
    have hcall : C.call = callN (envG G) F (n+2) := by rw [← hC]; rfl
    have hcallP : C.callP = callP (envG G) F (n+2) := by rw [← hC]; rfl
    clear hC
    simp [htt, hlin, hreg, reg35, hcall, hcallP, kp]
end Go.Proofs.YtjmcgdhekjkjfaaGreatDoor
set_option linter.unusedSimpArgs false
set_option linter.unusedVariables false
namespace Go.Proofs.YtjmcgdhekjkjfaaGreatDoor
open Go Go.VM
variable {G : GE}
set_option maxRecDepth 100000
set_option maxHeartbeats 4000000
def rdr (nl : Bool) (b : List Int) (x y : Int) : Option Blk := some (.cells false [.d (.nums .u8 nl b), .d (.int .i64 x), .d (.int .i64 y)])
theorem t_rfail (F n : Nat) (nl : Bool) (b : List Int) (x y c p : Int) :
    callP (envG G) F (n+1) 38 [.ptr 0 0, .d (.int .i64 c), .d (.int .i64 p)] [rdr nl b x y] [] = some ⟨[], [], [rdr nl b c p], []⟩ := by
  unfold rdr
  rw [callP_run (fn := Tryz.f38) rfl rfl rfl (by simp [Tryz.ntmps38])]
  generalize hC : (envG G).ctx 38 (callN (envG G) F (n)) (callP (envG G) F (n)) = C
  have htt : C.tt = (envG G).tt := by rw [← hC]; rfl
  have hlin : C.lin = [] := by rw [← hC]; rfl
  have hreg : C.reg = reg38 := by rw [← hC]; rfl
  have hcall : C.call = callN (envG G) F (n) := by rw [← hC]; rfl
  have hcallP : C.callP = callP (envG G) F (n) := by rw [← hC]; rfl
  simp [htt, hlin, hreg, reg38, hcall, hcallP]
theorem loop_rlen {m : Nat} {C : Ctx} {F : Nat} (hC : (envG G).ctx 39 (callN (envG G) F (m)) (callP (envG G) F (m)) = C) {c : Code} (hc : loopAt 16 Tryz.f39 = some c) (b : List Int) (i q : Nat) (hb : ∀ c ∈ b, 0 ≤ c ∧ c < 256) (hq : q ≤ 3) (hi : i ≤ 1048577) (hin : i + 1 + q ≤ b.length) (nl : Bool) (x y : Int) :
    ∀ (u j k : Nat) (st : St), j + u = q → u < k →
      st.trim 1 [0, 1, 9, 10, 11] = ⟨[(0, .ptr 0 0), (1, .d (.int .i64 i)), (9, .d (.int .i64 q)), (10, .d (.int .i64 (beN b (i + 1) j))), (11, .d (.int .i64 ((j : Int) + 1)))], [rdr nl b x y], []⟩ →
      iter (ev C F c) 1 [0, 1, 9, 10, 11] [0, 1, 6, 7, 9, 10] k st = some (.exit 0, ⟨[(0, .ptr 0 0), (1, .d (.int .i64 i)), (9, .d (.int .i64 q)), (10, .d (.int .i64 (beN b (i + 1) q)))], [rdr nl b x y], []⟩) := by
  have htt : C.tt = (envG G).tt := by rw [← hC]; rfl
  have hlin : C.lin = [] := by rw [← hC]; rfl
  have hreg : C.reg = reg39 := by rw [← hC]; rfl
  have hcall : C.call = callN (envG G) F (m) := by rw [← hC]; rfl
  have hcallP : C.callP = callP (envG G) F (m) := by rw [← hC]; rfl
  have hlv_16 : C.live 16 = [0, 1, 9, 10, 11] := by rw [← hC]; rfl
  have hlv_100016 : C.live 100016 = [0, 1, 6, 7, 9, 10] := by rw [← hC]; rfl
  have hev : ∀ st, ev C F c st = ev C F ((loopAt 16 Tryz.f39).getD .skip) st := fun st => by rw [hc]; rfl
  unfold rdr
  intro u
  induction u with
  | zero =>
    intro j k st hj hk hst
    obtain ⟨k, rfl⟩ : ∃ j, k = j + 1 := ⟨k - 1, by omega⟩
    have e0 : ¬ ((j : Int) + 1 ≤ (q : Int)) := by omega
    have e0' : ((q : Int) < (j : Int) + 1) := by omega
    have hjq : j = q := by omega
    subst hjq
    rw [iter_eq, hst, hev]
    simp [loopAt, findLoop, Tryz.f39, htt, hlin, hreg, reg39, hcall, hcallP, hlv_16, hlv_100016, e0, e0']
  | succ u ih =>
    intro j k st hj hk hst
    obtain ⟨k, rfl⟩ : ∃ j, k = j + 1 := ⟨k - 1, by omega⟩
    have e0 : ((j : Int) + 1 ≤ (q : Int)) := by omega
    have e0' : ¬ ((q : Int) < (j : Int) + 1) := by omega
    have ra := byteAt_get (b := b) (i := i + 1 + j) (by omega)
    have h1 := beN_ok hb (i + 1) j
    have h2 := byteAt_ok hb (i + 1 + j)
    have hp : (256 : Int) ^ j ≤ 65536 := by
      have : j = 0 ∨ j = 1 ∨ j = 2 := by omega
      rcases this with rfl | rfl | rfl <;> decide
    have ih' := fun st h => ih (j + 1) k st (by omega) (by omega) h
    simp only [beN] at ih'
    have e1 : (j : Int) + 1 + 1 ≤ 9223372036854775807 := by omega
    have e2 : (-9223372036854775808 : Int) ≤ (j : Int) + 1 + 1 := by omega
    have e3 : 256 * beN b (i + 1) j ≤ 9223372036854775807 := by omega
    have e4 : (-9223372036854775808 : Int) ≤ 256 * beN b (i + 1) j := by omega
    have e5 : byteAt b (i + 1 + j) ≤ 9223372036854775807 := by omega
    have e6 : (-9223372036854775808 : Int) ≤ byteAt b (i + 1 + j) := by omega
    have e7 : 256 * beN b (i + 1) j + byteAt b (i + 1 + j) ≤ 9223372036854775807 := by omega
    have e8 : (-9223372036854775808 : Int) ≤ 256 * beN b (i + 1) j + byteAt b (i + 1 + j) := by omega
    have e9 : (i : Int) + ((j : Int) + 1) ≤ 9223372036854775807 := by omega
    have e10 : (-9223372036854775808 : Int) ≤ (i : Int) + ((j : Int) + 1) := by omega
    have e11 : (0 : Int) ≤ (i : Int) + ((j : Int) + 1) := by omega
    have n1 : ((i : Int) + ((j : Int) + 1)).toNat = i + 1 + j := by omega
    rw [iter_eq, hst, hev]
    generalize beN b (i + 1) j = v at *
    generalize byteAt b (i + 1 + j) = x at *
    simp [loopAt, findLoop, Tryz.f39, htt, hlin, hreg, reg39, hcall, hcallP, hlv_16, hlv_100016, e0, e0', e1, e2, e3, e4, e5, e6, e7, e8, e9, e10, e11, n1, ra]
    simp at ih'
    exact ih' _ (by simp)
end Go.Proofs.YtjmcgdhekjkjfaaGreatDoor
