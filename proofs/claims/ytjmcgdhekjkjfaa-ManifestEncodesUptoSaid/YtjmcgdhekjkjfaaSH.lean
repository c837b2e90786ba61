/- What the reference's bytes hands back: its loop. -/
import Derived.Test.YtjmcgdhekjkjfaaSG
import Derived.Test.YtjmcgdhekjkjfaaSB
import Derived.Test.YtjmcgdhekjkjfaaSD
import Derived.Test.YtjmcgdhekjkjfaaSF
import Derived.Test.YtjmcgdhekjkjfaaVMS
import Derived.Test.YtjmcgdhekjkjfaaSA
import Derived.Test.YtjmcgdhekjkjfaaVMU
import Derived.Test.YtjmcgdhekjkjfaaRows
import Derived.WalkKit
import Derived.ProofKit
import Derived.OpenShut
import Derived.JoinedCond
import Derived.Below
set_option linter.unusedSimpArgs false
set_option linter.unusedVariables false
namespace Go.Proofs.Ytjmcgdhekjkjfaa
open Go Go.VM
variable {G : GE}
set_option maxRecDepth 100000
set_option maxHeartbeats 4000000

def tlvK' (p0 p1 p2 p3 : D) (x6 : Bool) (x7 : List Tlv) : Blk := .cells false [.d p0, .d p1, .d p2, .d p3, .d (.sl 5 x6 (Tlv.cellsL x7))]

theorem loop_bytes {m : Nat} {C : Ctx} {F : Nat} (hC : (envG G).ctx 29 (callN (envG G) F (m)) (callP (envG G) F (m)) = C) {c : Code} (hc : loopAt 3 Try.f29 = some c) (p0 p1 p2 p3 : D) (nl : Bool) (a : List Tlv) (ha : a.length ≤ 140737488355328)
    (hg : ∀ x ∈ a, callN (envG G) F m 29 [.d (.agg x.cells)] = some ⟨[.d (.nums .u8 false x.enc)], [0]⟩) :
    ∀ (us : List Tlv) (i k : Nat) (o : List Int) (st : St), a.drop i = us → i ≤ a.length → us.length < k → o.length + (Tlv.encL us).length ≤ 140737488355327 →
      st.trim 1 [1, 3, 4] = ⟨[(1, .ptr 0 0), (3, .d (.nums .u8 false o)), (4, .d (.int .i64 i))], [some (tlvK' p0 p1 p2 p3 nl a)], [.t 3]⟩ →
      iter (ev C F c) 1 [1, 3, 4] [1, 2, 3] k st = some (.exit 0, ⟨[(1, .ptr 0 0), (3, .d (.nums .u8 false (o ++ Tlv.encL us)))], [some (tlvK' p0 p1 p2 p3 nl a)], [.t 3]⟩) := by
  have htt : C.tt = (envG G).tt := by rw [← hC]; rfl
  have hlin : C.lin = [39, 11, 82, 79, 66, 55, 48, 6, 26, 3, 2, 8, 19, 44, 51, 58, 67, 80] := by rw [← hC]; rfl
  have hreg : C.reg = reg29 := by rw [← hC]; rfl
  have hcall : C.call = callN (envG G) F (m) := by rw [← hC]; rfl
  have hcallP : C.callP = callP (envG G) F (m) := by rw [← hC]; rfl
  have hlv_3 : C.live 3 = [1, 3, 4] := by rw [← hC]; rfl
  have hlv_100003 : C.live 100003 = [1, 2, 3] := by rw [← hC]; rfl
  have hev : ∀ st, ev C F c st = ev C F ((loopAt 3 Try.f29).getD .skip) st := fun st => by rw [hc]; rfl
  unfold tlvK'
  intro us
  induction us with
  | nil =>
    intro i k o st hd hi hk hzz hst
    obtain ⟨k, rfl⟩ : ∃ j, k = j + 1 := ⟨k - 1, by simp at hk; omega⟩
    have h0 := drop_nil hd
    have e0 : ¬ ((i : Int) < (a.length : Int)) := by omega
    rw [iter_eq, hst, hev]
    simp [loopAt, findLoop, Try.f29, htt, hlin, hreg, reg29, hcall, hcallP, hlv_3, hlv_100003, e0, Tlv.encL, cellsL_len]
  | cons x us ih =>
    intro i k o st hd hi hk hzz hst
    obtain ⟨k, rfl⟩ : ∃ j, k = j + 1 := ⟨k - 1, by simp at hk; omega⟩
    simp at hk
    obtain ⟨hd2, hlt⟩ := drop_succ hd
    have ra := cellsL_at hd
    have hxm := List.mem_of_getElem? (at_of_drop hd)
    simp only [Tlv.encL, List.length_append] at hzz ⊢
    have hx := hg x hxm
    have e0 : (i : Int) < (a.length : Int) := by omega
    have e1 : (i : Int) + 1 ≤ 9223372036854775807 := by omega
    have e2 : (-9223372036854775808 : Int) ≤ (i : Int) + 1 := by omega
    have ih' := fun st h => ih (i + 1) k (o ++ x.enc) st hd2 (by omega) hk (by simp; omega) h
    have l1 : o.length + x.enc.length ≤ 140737488355328 := by omega
    have l2 : o.length ≤ 140737488355327 := by omega
    have l3 : x.enc.length ≤ 140737488355328 := by omega
    rw [iter_eq, hst, hev]
    rw [← List.append_assoc]
    obtain ⟨c1, t, md, bn, b, kx, ks⟩ := x
    simp only [Tlv.cells] at ra hx
    generalize Tlv.enc (.mk c1 t md bn b kx ks) = s at *
    simp [loopAt, findLoop, Try.f29, htt, hlin, hreg, reg29, hcall, hcallP, hlv_3, hlv_100003, e0, e1, e2, ra, hx, cellsL_len, l1, l2, l3]
    simp at ih'
    exact ih' _ (by simp)
end Go.Proofs.Ytjmcgdhekjkjfaa

/- What the reference's Depth hands back. -/
set_option linter.unusedSimpArgs false
set_option linter.unusedVariables false
namespace Go.Proofs.Ytjmcgdhekjkjfaa
open Go Go.VM
variable {G : GE}
set_option maxRecDepth 100000
set_option maxHeartbeats 4000000

theorem loop_rdepth {C : Ctx} {F m : Nat} (htt : C.tt = (envG G).tt) (hlin : C.lin = []) (hreg : C.reg = reg28) (hcall : C.call = callN (envG G) F m) {c : Code}
    (hc : loopAt 3 Try.f28 = some c) (p0 p1 p2 p3 : D) (nl : Bool) (a : List Tlv) (ha : a.length ≤ 140737488355328)
    (hg : ∀ x ∈ a, callN (envG G) F m 28 [.d (.agg x.cells)] = some ⟨[.d (.int .i64 x.depth)], []⟩) :
    ∀ (us : List Tlv) (i k z : Nat) (st : St), a.drop i = us → i ≤ a.length → us.length < k →
      st.trim 1 [1, 3, 4] = ⟨[(1, .ptr 0 0), (3, .d (.int .i64 z)), (4, .d (.int .i64 i))], [some (.cells false [.d p0, .d p1, .d p2, .d p3, .d (.sl 5 nl (Tlv.cellsL a))])], []⟩ →
      iter (ev C F c) 1 [1, 3, 4] [2, 3] k st = some (.exit 0, ⟨[(3, .d (.int .i64 ((max z (Tlv.depthL us) : Nat) : Int)))], [some (.cells false [.d p0, .d p1, .d p2, .d p3, .d (.sl 5 nl (Tlv.cellsL a))])], []⟩) := by
  have hev : ∀ st, ev C F c st = ev C F ((loopAt 3 Try.f28).getD .skip) st := fun st => by rw [hc]; rfl
  intro us
  induction us with
  | nil =>
    intro i k z st hd hi hk hst
    obtain ⟨k, rfl⟩ : ∃ j, k = j + 1 := ⟨k - 1, by simp at hk; omega⟩
    have h0 := drop_nil hd
    have e0 : ¬ ((i : Int) < (a.length : Int)) := by omega
    rw [iter_eq, hst, hev]
    simp [loopAt, findLoop, Try.f28, htt, hlin, hreg, reg28, e0, Tlv.depthL, cellsL_len]
  | cons x us ih =>
    intro i k z st hd hi hk hst
    obtain ⟨k, rfl⟩ : ∃ j, k = j + 1 := ⟨k - 1, by simp at hk; omega⟩
    simp at hk
    obtain ⟨hd2, hlt⟩ := drop_succ hd
    have ra := cellsL_at hd
    have hx := hg x (List.mem_of_getElem? (at_of_drop hd))
    have e0 : (i : Int) < (a.length : Int) := by omega
    have e1 : (i : Int) + 1 ≤ 9223372036854775807 := by omega
    have e2 : (-9223372036854775808 : Int) ≤ (i : Int) + 1 := by omega
    rw [iter_eq, hst, hev]
    simp only [Tlv.depthL]
    have ih' := fun z st h => ih (i + 1) k z st hd2 (by omega) hk h
    obtain ⟨c1, t, md, bn, b, kx, ks⟩ := x
    simp only [Tlv.cells] at ra hx
    generalize Tlv.depth (.mk c1 t md bn b kx ks) = s at *
    by_cases hm : z < s
    · have e3 : (z : Int) < (s : Int) := by omega
      rw [show max z (max s (Tlv.depthL us)) = max s (Tlv.depthL us) by omega]
      simp [loopAt, findLoop, Try.f28, htt, hlin, hreg, reg28, hcall, e0, e1, e2, e3, ra, hx, cellsL_len]
      simp at ih'
      exact ih' s _ (by simp)
    · have e3 : ¬ ((z : Int) < (s : Int)) := by omega
      rw [show max z (max s (Tlv.depthL us)) = max z (Tlv.depthL us) by omega]
      simp [loopAt, findLoop, Try.f28, htt, hlin, hreg, reg28, hcall, e0, e1, e2, e3, ra, hx, cellsL_len]
      simp at ih'
      exact ih' z _ (by simp)

theorem t_rdepth (F : Nat) (hF : F ≤ 140737488355328) (B : Nat) (hB : B < F) : ∀ (d n : Nat) (x : Tlv), d ≤ 1000000 → x.depth ≤ d → x.width B →
    callN (envG G) F (n + d) 28 [.d (.agg x.cells)] = some ⟨[.d (.int .i64 x.depth)], []⟩ := by
  intro d
  induction d with
  | zero => intro n x _ hd; cases x; simp [Tlv.depth] at hd
  | succ d ih =>
    intro n x hd0 hd hw
    obtain ⟨c, t, m, bn, b, kn, ks⟩ := x
    simp only [Tlv.depth] at hd
    simp only [Tlv.width] at hw
    have hkl : ks.length ≤ B := hw.2.1
    simp only [Tlv.cells, Tlv.depth]
    rw [show n + (d + 1) = n + d + 1 by omega, callN_run (fn := Try.f28) rfl rfl rfl (by simp [Try.ntmps28])]
    generalize hC : (envG G).ctx 28 (callN (envG G) F (n + d)) (callP (envG G) F (n + d)) = C
    have htt : C.tt = (envG G).tt := by rw [← hC]; rfl
    have hlin : C.lin = [] := by rw [← hC]; rfl
    have hreg : C.reg = reg28 := by rw [← hC]; rfl
    have hcall : C.call = callN (envG G) F (n + d) := by rw [← hC]; rfl
    have hl1 : C.live 3 = [1, 3, 4] := by rw [← hC]; rfl
    have hl2 : C.live 100003 = [2, 3] := by rw [← hC]; rfl
    have hL := fun st h => loop_rdepth (G := G) htt hlin hreg hcall rfl (.int .i64 c) (.int .i64 t) (.bool m) (.nums .u8 bn b) kn ks (by omega)
      (fun x hx => ih n x (by omega) (by have := depthL_mem hx; omega) (widthL_mem hw.2.2 hx)) ks 0 F 0 st rfl (by omega) (by omega) h
    have e1 : (Tlv.depthL ks : Int) + 1 ≤ 9223372036854775807 := by omega
    have e2 : (-9223372036854775808 : Int) ≤ (Tlv.depthL ks : Int) + 1 := by omega
    simp at hL
    simp [htt, hlin, hreg, reg28, hcall, ev_loop, hl1, hl2]
    rw [hL _ (by simp)]
    simp [htt, hlin, hreg, reg28, hcall, e1, e2]
end Go.Proofs.Ytjmcgdhekjkjfaa

/- What the reference's bytes and Write hand back. -/
set_option linter.unusedSimpArgs false
set_option linter.unusedVariables false
namespace Go.Proofs.Ytjmcgdhekjkjfaa
open Go Go.VM
variable {G : GE}
set_option maxRecDepth 100000
set_option maxHeartbeats 4000000

theorem t_bytes (F : Nat) (hF : F ≤ 140737488355328) (B : Nat) (hB : B < F) : ∀ (d n : Nat) (x : Tlv), x.depth ≤ d → x.width B → x.fine = true → x.enc.length < 16777216 →
    callN (envG G) F (n + d) 29 [.d (.agg x.cells)] = some ⟨[.d (.nums .u8 false x.enc)], [0]⟩ := by
  intro d
  induction d with
  | zero => intro n x hd; cases x; simp [Tlv.depth] at hd
  | succ d ih =>
    intro n x hd hw hfi hen
    obtain ⟨c, t, m, bn, b, kn, ks⟩ := x
    simp only [Tlv.depth] at hd
    simp only [Tlv.width] at hw
    have hkl : ks.length ≤ B := hw.2.1
    simp only [Tlv.fine, Bool.and_eq_true, decide_eq_true_eq] at hfi
    obtain ⟨⟨c0, c3, t0, t30, _, _⟩, hfl⟩ := hfi
    simp only [Tlv.enc, headB, List.length_append, List.length_cons] at hen
    simp only [Tlv.enc, headB, Tlv.cells]
    obtain ⟨o, ho⟩ : ∃ o, o = b ++ Tlv.encL ks := ⟨_, rfl⟩
    have hlo : o.length = b.length + (Tlv.encL ks).length := by rw [ho]; simp
    rw [← ho]
    rw [show n + (d + 1) = n + d + 1 by omega]
    rw [callN_run (fn := Try.f29) rfl rfl rfl (by simp [Try.ntmps29])]
    generalize hC : (envG G).ctx 29 (callN (envG G) F (n+d)) (callP (envG G) F (n+d)) = C
    have htt : C.tt = (envG G).tt := by rw [← hC]; rfl
    have hlin : C.lin = [39, 11, 82, 79, 66, 55, 48, 6, 26, 3, 2, 8, 19, 44, 51, 58, 67, 80] := by rw [← hC]; rfl
    have hreg : C.reg = reg29 := by rw [← hC]; rfl
    have hcall : C.call = callN (envG G) F (n+d) := by rw [← hC]; rfl
    have hcallP : C.callP = callP (envG G) F (n+d) := by rw [← hC]; rfl
    have hlv_3 : C.live 3 = [1, 3, 4] := by rw [← hC]; rfl
    have hlv_100003 : C.live 100003 = [1, 2, 3] := by rw [← hC]; rfl
    have hL := fun st h => loop_bytes (G := G) hC rfl (.int .i64 c) (.int .i64 t) (.bool m) (.nums .u8 bn b) kn ks (by omega)
      (fun x hx => ih n x (by have := depthL_mem hx; omega) (widthL_mem hw.2.2 hx) (fineL_mem hfl hx) (by have := enc_mem hx; omega)) ks 0 F b st rfl (by omega) (by omega) (by omega) h
    rw [← ho] at hL
    clear hC ih
    unfold tlvK' at hL
    simp at hL
    have hbl : b.length ≤ 140737488355327 := by omega
    have hbl2 : b.length ≤ 140737488355328 := by omega
    have e1 : 64 * c ≤ 9223372036854775807 := by omega
    have e2 : -9223372036854775808 ≤ 64 * c := by omega
    have e3 : 64 * c + t ≤ 9223372036854775807 := by omega
    have e4 : -9223372036854775808 ≤ 64 * c + t := by omega
    have e5 : 64 * c + t + 32 ≤ 9223372036854775807 := by omega
    have e6 : -9223372036854775808 ≤ 64 * c + t + 32 := by omega
    have e7 : 0 ≤ 64 * c + t := by omega
    have e8 : 64 * c + t ≤ 255 := by omega
    have e9 : 0 ≤ 64 * c + t + 32 := by omega
    have e10 : 64 * c + t + 32 ≤ 255 := by omega
    simp [htt, hlin, hreg, reg29, hcall, hcallP, hlv_3, hlv_100003, ev_loop, hbl, hbl2]
    rw [hL _ (by simp)]
    have hNl : o.length < 16777216 := by omega
    clear ho hlo
    have q1 : (o.length : Int).tdiv 256 = (o.length : Int) / 256 := Int.tdiv_eq_ediv_of_nonneg (by omega)
    have q2 : (o.length : Int).tmod 256 = (o.length : Int) % 256 := Int.tmod_eq_emod_of_nonneg (by omega)
    have q3 : (o.length : Int).tdiv 65536 = (o.length : Int) / 65536 := Int.tdiv_eq_ediv_of_nonneg (by omega)
    have q4 : ((o.length : Int) / 256).tmod 256 = (o.length : Int) / 256 % 256 := Int.tmod_eq_emod_of_nonneg (by omega)
    have l1 : o.length + 1 ≤ 140737488355328 := by omega
    have l2 : o.length + 5 ≤ 140737488355328 := by omega
    have l3 : 1 + 1 + o.length ≤ 140737488355328 := by omega
    have l4 : o.length ≤ 140737488355327 := by omega
    have l5 : o.length ≤ 140737488355328 := by omega
    have l6 : 2 + o.length ≤ 140737488355328 := by omega
    have l7 : 3 + o.length ≤ 140737488355328 := by omega
    have l8 : 4 + o.length ≤ 140737488355328 := by omega
    have l9 : 5 + o.length ≤ 140737488355328 := by omega
    have w1 : (o.length : Int) / 256 ≤ 9223372036854775807 := by omega
    have w2 : (-9223372036854775808 : Int) ≤ (o.length : Int) / 256 := by omega
    have w3 : (o.length : Int) % 256 ≤ 9223372036854775807 := by omega
    have w4 : (-9223372036854775808 : Int) ≤ (o.length : Int) % 256 := by omega
    have w5 : (o.length : Int) / 65536 ≤ 9223372036854775807 := by omega
    have w6 : (-9223372036854775808 : Int) ≤ (o.length : Int) / 65536 := by omega
    have w7 : (o.length : Int) / 256 % 256 ≤ 9223372036854775807 := by omega
    have w8 : (-9223372036854775808 : Int) ≤ (o.length : Int) / 256 % 256 := by omega
    have u1 : 0 ≤ (o.length : Int) % 256 := by omega
    have u2 : (o.length : Int) % 256 ≤ 255 := by omega
    have u3 : 0 ≤ (o.length : Int) / 256 % 256 := by omega
    have u4 : (o.length : Int) / 256 % 256 ≤ 255 := by omega
    have u5 : 0 ≤ (o.length : Int) / 65536 := by omega
    have u6 : (o.length : Int) / 65536 ≤ 255 := by omega
    have u7 : 0 ≤ (o.length : Int) / 256 := by omega
    unfold sizeB
    by_cases s1 : o.length < 128
    · have s1' : (o.length : Int) < 128 := by omega
      have s1'' : (o.length : Int) ≤ 255 := by omega
      rw [if_pos s1]
      cases m <;> simp [htt, hlin, hreg, reg29, hcall, hcallP, hlv_3, hlv_100003, e1, e2, e3, e4, e5, e6, e7, e8, e9, e10, s1', s1'', l1, l2, l3, l4, l5, l6]
    · have s1' : ¬ (o.length : Int) < 128 := by omega
      rw [if_neg s1]
      by_cases s2 : o.length < 256
      · have s2' : (o.length : Int) < 256 := by omega
        have s2'' : (o.length : Int) ≤ 255 := by omega
        rw [if_pos s2]
        cases m <;> simp [htt, hlin, hreg, reg29, hcall, hcallP, hlv_3, hlv_100003, e1, e2, e3, e4, e5, e6, e7, e8, e9, e10, s1', s2', s2'', l1, l2, l3, l4, l5, l7]
      · have s2' : ¬ (o.length : Int) < 256 := by omega
        rw [if_neg s2]
        by_cases s3 : o.length < 65536
        · have s3' : (o.length : Int) < 65536 := by omega
          have u8 : (o.length : Int) / 256 ≤ 255 := by omega
          rw [if_pos s3]
          cases m <;> simp [htt, hlin, hreg, reg29, hcall, hcallP, hlv_3, hlv_100003, e1, e2, e3, e4, e5, e6, e7, e8, e9, e10, s1', s2', s3', l1, l2, l3, l4, l5, l8, q1, q2, w1, w2, w3, w4, u1, u2, u7, u8]
        · have s3' : ¬ (o.length : Int) < 65536 := by omega
          rw [if_neg s3]
          cases m <;> simp [htt, hlin, hreg, reg29, hcall, hcallP, hlv_3, hlv_100003, e1, e2, e3, e4, e5, e6, e7, e8, e9, e10, s1', s2', s3', l1, l2, l3, l4, l5, l9, q1, q2, q3, q4, w1, w2, w3, w4, w5, w6, w7, w8, u1, u2, u3, u4, u5, u6]

theorem t_rWrite (F : Nat) (hF : F ≤ 140737488355328) (B : Nat) (hB : B < F) (d n : Nat) (x : Tlv) (hd0 : d ≤ 1000000) (hd : x.depth ≤ d) (hw : x.width B) (hen : x.enc.length < 16777216) :
    callN (envG G) F (n + d + 1) 17 [.d (.agg x.cells)] = some ⟨[.d (if badW x = 0 then .nums .u8 false x.enc else .nums .u8 true []), .d (.int .i64 (badW x))], []⟩ := by
  have k1 := t_rfine (G := G) F hF B hB d n x hd hw
  have k2 := t_rdepth (G := G) F hF B hB d n x hd0 hd hw
  have k3 := fun h => t_bytes (G := G) F hF B hB d n x hd hw h hen
  unfold badW
  obtain ⟨c, t, m, bn, b, kn, ks⟩ := x
  simp only [Tlv.cells] at k1 k2 k3 ⊢
  generalize hx : Tlv.mk c t m bn b kn ks = x at *
  rw [callN_run (fn := Try.f17) rfl rfl rfl (by simp [Try.ntmps17])]
  generalize hC : (envG G).ctx 17 (callN (envG G) F (n+d)) (callP (envG G) F (n+d)) = C
  have htt : C.tt = (envG G).tt := by rw [← hC]; rfl
  have hlin : C.lin = [] := by rw [← hC]; rfl
  have hreg : C.reg = reg17 := by rw [← hC]; rfl
  have hcall : C.call = callN (envG G) F (n+d) := by rw [← hC]; rfl
  have hcallP : C.callP = callP (envG G) F (n+d) := by rw [← hC]; rfl
  cases hf : x.fine with
  | false =>
    rw [hf] at k1
    simp [htt, hlin, hreg, reg17, hcall, hcallP, k1]
  | true =>
    rw [hf] at k1
    have k3' := k3 hf
    by_cases h16 : 16 < x.depth
    · have h16' : (16 : Int) < x.depth := by omega
      simp [htt, hlin, hreg, reg17, hcall, hcallP, k1, k2, h16, h16']
    · have h16' : ¬ (16 : Int) < x.depth := by omega
      by_cases hl : 1048576 < x.enc.length
      · have hl' : (1048576 : Int) < x.enc.length := by omega
        simp [htt, hlin, hreg, reg17, hcall, hcallP, k1, k2, k3', h16, h16', hl, hl']
      · have hl' : ¬ (1048576 : Int) < x.enc.length := by omega
        simp [htt, hlin, hreg, reg17, hcall, hcallP, k1, k2, k3', h16, h16', hl, hl']
end Go.Proofs.Ytjmcgdhekjkjfaa

/- What the law's encoded hands back. -/
set_option linter.unusedSimpArgs false
set_option linter.unusedVariables false
namespace Go.Proofs.Ytjmcgdhekjkjfaa
open Go Go.VM
variable {G : GE}
set_option maxRecDepth 100000
set_option maxHeartbeats 16000000

theorem t_r16List (F n : Nat) (nl : Bool) (l : List (List D)) : callN (envG G) F (n+1) 18 [.d (.sl 5 nl l)] = some ⟨[.d (.agg [.int .i64 0, .int .i64 16, .bool true, .nums .u8 true [], .sl 5 nl l])], []⟩ := by
  rw [callN_run (fn := Try.f18) rfl rfl rfl (by simp [Try.ntmps18])]
  generalize hC : (envG G).ctx 18 (callN (envG G) F (n)) (callP (envG G) F (n)) = C
  have htt : C.tt = (envG G).tt := by rw [← hC]; rfl
  have hlin : C.lin = [] := by rw [← hC]; rfl
  have hreg : C.reg = reg18 := by rw [← hC]; rfl
  have hcall : C.call = callN (envG G) F (n) := by rw [← hC]; rfl
  have hcallP : C.callP = callP (envG G) F (n) := by rw [← hC]; rfl
  simp [htt, hlin, hreg, reg18, hcall, hcallP]

theorem loop_encd {m : Nat} {C : Ctx} {F : Nat} (hC : (envG G).ctx 8 (callN (envG G) F (m)) (callP (envG G) F (m)) = C) {c : Code} (hc : loopAt 4 Try.f8 = some c) (v0 v1 v2 v3 : Int) (x y z : D) (os : List Pl) (hos : os = [.t 5, .t 4])
    (hg : ∀ v, v = v0 ∨ v = v1 ∨ v = v2 ∨ v = v3 → callN (envG G) F m 16 [.d (.int .i64 v)] = some (if inB v then ⟨[.d (.nums .u8 false (smallB v)), .d (.int .i64 0)], [0]⟩ else ⟨[.d (.nums .u8 true []), .d (.int .i64 3)], [0]⟩)) (k : Nat) (st : St)
    (hst : st.trim 1 [1, 4, 5, 6] = ⟨[(1, .ptr 0 0), (4, .d (.nums .i64 false [v0, v1, v2, v3])), (5, .d (.sl 5 true [])), (6, .d (.int .i64 0))], [some (manC v0 v1 v2 v3 x y z)], os⟩) :
    if inB v0 && inB v1 && inB v2 && inB v3 then
      iter (ev C F c) 1 [1, 4, 5, 6] [1, 2, 3, 5] (k + 5) st = some (.exit 0, ⟨[(1, .ptr 0 0), (5, .d (.sl 5 false (Tlv.cellsL [numT v0, numT v1, numT v2, numT v3])))], [some (manC v0 v1 v2 v3 x y z)], [.t 5]⟩)
    else ∃ st', iter (ev C F c) 1 [1, 4, 5, 6] [1, 2, 3, 5] (k + 5) st = some (.ret, st') ∧ finish C Try.f8.results.toList (some (.ret, st')) = some ⟨[.d (.nums .u8 true []), .d (.int .i64 1)], [0]⟩ := by
  have htt : C.tt = (envG G).tt := by rw [← hC]; rfl
  have hlin : C.lin = [69, 68, 64, 36, 5, 3, 2, 32, 53] := by rw [← hC]; rfl
  have hreg : C.reg = reg8 := by rw [← hC]; rfl
  have hcall : C.call = callN (envG G) F (m) := by rw [← hC]; rfl
  have hcallP : C.callP = callP (envG G) F (m) := by rw [← hC]; rfl
  have hlv_4 : C.live 4 = [1, 4, 5, 6] := by rw [← hC]; rfl
  have hlv_100004 : C.live 100004 = [1, 2, 3, 5] := by rw [← hC]; rfl
  have hev : ∀ st, ev C F c st = ev C F ((loopAt 4 Try.f8).getD .skip) st := fun st => by rw [hc]; rfl
  have g0 := hg v0 (.inl rfl)
  have g1 := hg v1 (.inr (.inl rfl))
  have g2 := hg v2 (.inr (.inr (.inl rfl)))
  have g3 := hg v3 (.inr (.inr (.inr rfl)))
  clear hg
  subst hos
  unfold manC at *
  simp only [numT, Tlv.cells, Tlv.cellsL] at hst ⊢
  generalize inB v0 = s0 at *
  generalize inB v1 = s1 at *
  generalize inB v2 = s2 at *
  generalize inB v3 = s3 at *
  rw [iter_eq, hst, hev]
  cases s0
  case false => simp [loopAt, findLoop, Try.f8, htt, hlin, hreg, reg8, hcall, hcallP, hlv_4, hlv_100004, g0]
  simp [loopAt, findLoop, Try.f8, htt, hlin, hreg, reg8, hcall, hcallP, hlv_4, hlv_100004, g0]
  rw [iter_eq, hev]
  cases s1
  case false => simp [loopAt, findLoop, Try.f8, htt, hlin, hreg, reg8, hcall, hcallP, hlv_4, hlv_100004, g1]
  simp [loopAt, findLoop, Try.f8, htt, hlin, hreg, reg8, hcall, hcallP, hlv_4, hlv_100004, g1]
  rw [iter_eq, hev]
  cases s2
  case false => simp [loopAt, findLoop, Try.f8, htt, hlin, hreg, reg8, hcall, hcallP, hlv_4, hlv_100004, g2]
  simp [loopAt, findLoop, Try.f8, htt, hlin, hreg, reg8, hcall, hcallP, hlv_4, hlv_100004, g2]
  rw [iter_eq, hev]
  cases s3
  case false => simp [loopAt, findLoop, Try.f8, htt, hlin, hreg, reg8, hcall, hcallP, hlv_4, hlv_100004, g3]
  simp [loopAt, findLoop, Try.f8, htt, hlin, hreg, reg8, hcall, hcallP, hlv_4, hlv_100004, g3]
  rw [iter_eq, hev]
  simp [loopAt, findLoop, Try.f8, htt, hlin, hreg, reg8, hcall, hcallP, hlv_4, hlv_100004, g3]

theorem t_encoded (F : Nat) (hF : 1048580 < F) (hF2 : F ≤ 140737488355328) (n : Nat) (v0 v1 v2 v3 : Int) (n1 n2 n3 : Bool) (x y z : List Int)
    (r0 : -9223372036854775808 ≤ v0 ∧ v0 ≤ 9223372036854775807) (r1 : -9223372036854775808 ≤ v1 ∧ v1 ≤ 9223372036854775807) (r2 : -9223372036854775808 ≤ v2 ∧ v2 ≤ 9223372036854775807) (r3 : -9223372036854775808 ≤ v3 ∧ v3 ≤ 9223372036854775807)
    (hw : manOk v0 v1 v2 v3 x y z = true → callN (envG G) F (n + 29) 17 [.d (.agg (manT v0 v1 v2 v3 n1 n2 n3 x y z).cells)] = some ⟨[.d (.nums .u8 false (manT v0 v1 v2 v3 n1 n2 n3 x y z).enc), .d (.int .i64 0)], []⟩) :
    callN (envG G) F (n + 30) 8 [.d (.agg [.int .i64 v0, .int .i64 v1, .int .i64 v2, .int .i64 v3, .nums .u8 n1 x, .nums .u8 n2 y, .nums .u8 n3 z])] =
      some ⟨(if manOk v0 v1 v2 v3 x y z then [.d (.nums .u8 false (manT v0 v1 v2 v3 n1 n2 n3 x y z).enc), .d (.int .i64 0)] else [.d (.nums .u8 true []), .d (.int .i64 1)]), if manOk v0 v1 v2 v3 x y z then [] else [0]⟩ := by
  have kS : ∀ v, v = v0 ∨ v = v1 ∨ v = v2 ∨ v = v3 → callN (envG G) F (n + 29) 16 [.d (.int .i64 v)] = some (if inB v then ⟨[.d (.nums .u8 false (smallB v)), .d (.int .i64 0)], [0]⟩ else ⟨[.d (.nums .u8 true []), .d (.int .i64 3)], [0]⟩) := fun v hv => by
    have hr : -9223372036854775808 ≤ v ∧ v ≤ 9223372036854775807 := by rcases hv with rfl | rfl | rfl | rfl <;> assumption
    have := t_rSmallOf (G := G) F (n + 27) (by omega) v hr
    rw [show n + 27 + 2 = n + 29 by omega] at this
    rw [this]
    unfold inB
    by_cases h : v < 0 ∨ 2147483647 < v <;> simp [h]
  have kL : ∀ nl l, callN (envG G) F (n + 29) 18 _ = _ := fun nl l => t_r16List (G := G) F (n + 28) nl l
  rw [callN_run (fn := Try.f8) rfl rfl rfl (by simp [Try.ntmps8])]
  generalize hC : (envG G).ctx 8 (callN (envG G) F (n+29)) (callP (envG G) F (n+29)) = C
  have htt : C.tt = (envG G).tt := by rw [← hC]; rfl
  have hlin : C.lin = [69, 68, 64, 36, 5, 3, 2, 32, 53] := by rw [← hC]; rfl
  have hreg : C.reg = reg8 := by rw [← hC]; rfl
  have hcall : C.call = callN (envG G) F (n+29) := by rw [← hC]; rfl
  have hcallP : C.callP = callP (envG G) F (n+29) := by rw [← hC]; rfl
  have hlv_4 : C.live 4 = [1, 4, 5, 6] := by rw [← hC]; rfl
  have hlv_100004 : C.live 100004 = [1, 2, 3, 5] := by rw [← hC]; rfl
  have hL1 := fun os hos st h => by
    have hq := loop_encd (G := G) hC rfl v0 v1 v2 v3 (.nums .u8 n1 x) (.nums .u8 n2 y) (.nums .u8 n3 z) os hos kS (F - 5) st h
    rw [show F - 5 + 5 = F by omega] at hq
    exact hq
  clear hC kS
  unfold manOk at *
  simp [htt, hlin, hreg, reg8, hcall, hcallP, hlv_4, hlv_100004, ev_loop]
  have hL1' := fun st h => hL1 _ rfl st h
  clear hL1
  unfold manC at hL1'
  generalize hs : (inB v0 && inB v1 && inB v2 && inB v3) = s at *
  have hs2 : ((inB v0 = true ∧ inB v1 = true) ∧ inB v2 = true) ∧ inB v3 = true ↔ s = true := by rw [← hs]; simp
  simp only [hs2]
  clear hs2 hs
  cases s with
  | false =>
    simp only [Bool.false_eq_true, if_false, false_and] at hL1' ⊢
    have hL := fun st h => Classical.choose_spec (hL1' st h)
    simp [Try.f8, htt, hlin, hreg, reg8, hcall, hcallP, hlv_4, hlv_100004] at hL
    rw [(hL _ (by simp)).1]
    simp [htt, hlin, hreg, reg8, hcall, hcallP, hlv_4, hlv_100004]
    exact (hL _ (by simp)).2
  | true =>
    simp only [if_true, true_and] at hL1' ⊢
    rw [hL1' _ (by simp)]
    by_cases hx : x.length = 12
    case neg =>
      have hx' : ¬ (x.length : Int) = 12 := by omega
      simp [htt, hlin, hreg, reg8, hcall, hcallP, hlv_4, hlv_100004, hx, hx']
    by_cases hy : y.length = 145
    case neg =>
      have hx' : (x.length : Int) = 12 := by omega
      have hy' : ¬ (y.length : Int) = 145 := by omega
      simp [htt, hlin, hreg, reg8, hcall, hcallP, hlv_4, hlv_100004, hx, hx', hy, hy']
    by_cases hz : z.length = 48
    case neg =>
      have hx' : (x.length : Int) = 12 := by omega
      have hy' : (y.length : Int) = 145 := by omega
      have hz' : ¬ (z.length : Int) = 48 := by omega
      simp [htt, hlin, hreg, reg8, hcall, hcallP, hlv_4, hlv_100004, hx, hx', hy, hy', hz, hz']
    have hw' := hw (by simp [hx, hy, hz])
    have hx' : (x.length : Int) = 12 := by omega
    have hy' : (y.length : Int) = 145 := by omega
    have hz' : (z.length : Int) = 48 := by omega
    unfold manT listT at hw' ⊢
    simp only [Tlv.cells, List.isEmpty_cons, Tlv.cellsL, numT, octT] at hw' ⊢
    simp [htt, hlin, hreg, reg8, hcall, hcallP, hlv_4, hlv_100004, hx', hy', hz', hx, hy, hz, kL, hw']
end Go.Proofs.Ytjmcgdhekjkjfaa

/- The law ManifestEncodes, reckoned by the machine over values, hands back true: for all manifests. -/
set_option linter.unusedSimpArgs false
set_option linter.unusedVariables false
namespace Go.Proofs.Ytjmcgdhekjkjfaa
open Go Go.VM
variable {G : GE}
set_option maxRecDepth 100000
set_option maxHeartbeats 8000000

theorem upE0 : callN (envG G) 200 60 5 [] = some ⟨[.d (.bool true)], []⟩ := by kernel_rfl
theorem upE (F n : Nat) (hf : 200 ≤ F) (hn : 60 ≤ n) : callN (envG G) F n 5 [] = some ⟨[.d (.bool true)], []⟩ := callN_mono hf hn ((upE0 (G := G)))

theorem e_law (F : Nat) (hF : 1048580 < F) (hF2 : F ≤ 140737488355328) (n : Nat) (v0 v1 v2 v3 : Int) (n1 n2 n3 : Bool) (x y z : List Int)
    (r0 : -9223372036854775808 ≤ v0 ∧ v0 ≤ 9223372036854775807) (r1 : -9223372036854775808 ≤ v1 ∧ v1 ≤ 9223372036854775807) (r2 : -9223372036854775808 ≤ v2 ∧ v2 ≤ 9223372036854775807) (r3 : -9223372036854775808 ≤ v3 ∧ v3 ≤ 9223372036854775807)
    (hx : ∀ c ∈ x, 0 ≤ c ∧ c < 256) (hy : ∀ c ∈ y, 0 ≤ c ∧ c < 256) (hz : ∀ c ∈ z, 0 ≤ c ∧ c < 256) :
    callN (envG G) F (n + 110) 4 [.d (.agg [.int .i64 v0, .int .i64 v1, .int .i64 v2, .int .i64 v3, .nums .u8 n1 x, .nums .u8 n2 y, .nums .u8 n3 z])] = some ⟨[.d (.bool true)], []⟩ := by
  have hu := upE (G := G) F (n + 109) (by omega) (by omega)
  have hT := fun h => manT_ok (v0 := v0) (v1 := v1) (v2 := v2) (v3 := v3) (n1 := n1) (n2 := n2) (n3 := n3) (x := x) (y := y) (z := z) h hx hy hz
  have hwd := fun h => weight_width (W := 1048576) (manT v0 v1 v2 v3 n1 n2 n3 x y z) (by have := (hT h).2.2.1; omega)
  have hle : manOk v0 v1 v2 v3 x y z = true → (manT v0 v1 v2 v3 n1 n2 n3 x y z).enc.length ≤ 1048576 := fun h => by
    have := enc_le (manT v0 v1 v2 v3 n1 n2 n3 x y z)
    have := (hT h).2.2.1
    omega
  have hbw : manOk v0 v1 v2 v3 x y z = true → badW (manT v0 v1 v2 v3 n1 n2 n3 x y z) = 0 := fun h => by
    unfold badW
    have h1 := (hT h).1
    have h2 := (hT h).2.1
    have h3 := hle h
    rw [if_neg (by simp [h1]), if_neg (by omega), if_neg (by omega)]
  have hE : callN (envG G) F (n + 109) _ _ = _ := t_Encode (G := G) F hF hF2 (n + 79) v0 v1 v2 v3 n1 n2 n3 x y z r0 r1 r2 r3 (fun h => by
    have := t_Write (G := G) F hF2 1048576 (by omega) (by omega) 16 (n + 42) (manT v0 v1 v2 v3 n1 n2 n3 x y z) (by omega) (hT h).2.1 (hwd h)
    rw [hbw h] at this
    exact this)
  have hD := t_encoded (G := G) F hF hF2 (n + 79) v0 v1 v2 v3 n1 n2 n3 x y z r0 r1 r2 r3 (fun h => by
    have := t_rWrite (G := G) F hF2 1048576 (by omega) 16 (n + 91) (manT v0 v1 v2 v3 n1 n2 n3 x y z) (by omega) (hT h).2.1 (hwd h) (by have := hle h; omega)
    rw [hbw h] at this
    exact this)
  have hD : callN (envG G) F (n + 109) _ _ = _ := hD
  have hC0 : callN (envG G) F (n + 109) _ _ = _ := t_Code_nil (G := G) F (n + 108)
  have hC1 : callN (envG G) F (n + 109) _ _ = _ := t_Code (G := G) F (n + 108) (by omega) 1
  have hP : manOk v0 v1 v2 v3 x y z = true → callN (envG G) F (n + 109) 10 [.d (.nums .u8 false (manT v0 v1 v2 v3 n1 n2 n3 x y z).enc)] = some ⟨[.d (manD v0 v1 v2 v3 (.nums .u8 false x) (.nums .u8 false y) (.nums .u8 false z)), .d .nilifc], []⟩ := fun h => by
    have h1 := hT h
    have := t_Decode (G := G) F hF (n + 79) (manT v0 v1 v2 v3 n1 n2 n3 x y z).enc false (by simp) (enc_bytes _ h1.1 h1.2.2.2.1 (by have := hle h; omega))
    rw [parseB_enc h1.1 h1.2.1 (hle h)] at this
    simp only [decodeV, h1.2.2.2.2] at this
    exact this
  have hS : ∀ m1 m2 m3 : Bool, x.length ≤ 1000 → y.length ≤ 1000 → z.length ≤ 1000 → callN (envG G) F (n + 109) _ _ = _ := fun m1 m2 m3 l1 l2 l3 => t_same20 (G := G) F (n + 108) v0 v1 v2 v3 v0 v1 v2 v3 false false false m1 m2 m3 x y z x y z (by omega) (by omega) (by omega) (by omega) (by omega) (by omega)
  rw [callN_run (fn := Try.f4) rfl rfl rfl (by simp [Try.ntmps4])]
  generalize hC : (envG G).ctx 4 (callN (envG G) F (n+109)) (callP (envG G) F (n+109)) = C
  have htt : C.tt = (envG G).tt := by rw [← hC]; rfl
  have hlin : C.lin = [] := by rw [← hC]; rfl
  have hreg : C.reg = reg4 := by rw [← hC]; rfl
  have hcall : C.call = callN (envG G) F (n+109) := by rw [← hC]; rfl
  have hcallP : C.callP = callP (envG G) F (n+109) := by rw [← hC]; rfl
  clear hC hT hwd hbw
  by_cases l1 : 1000 < x.length
  · have l1' : (1000 : Int) < x.length := by omega
    simp [htt, hlin, hreg, reg4, hcall, hcallP, hu, l1']
  have l1' : ¬ (1000 : Int) < x.length := by omega
  by_cases l2 : 1000 < y.length
  · have l2' : (1000 : Int) < y.length := by omega
    simp [htt, hlin, hreg, reg4, hcall, hcallP, hu, l1', l2']
  have l2' : ¬ (1000 : Int) < y.length := by omega
  by_cases l3 : 1000 < z.length
  · have l3' : (1000 : Int) < z.length := by omega
    simp [htt, hlin, hreg, reg4, hcall, hcallP, hu, l1', l2', l3']
  have l3' : ¬ (1000 : Int) < z.length := by omega
  have hS' := hS n1 n2 n3 (by omega) (by omega) (by omega)
  clear hS
  unfold manD at hS' hP
  simp at hS'
  cases hm : manOk v0 v1 v2 v3 x y z with
  | false =>
    rw [hm] at hE hD
    simp only [Bool.false_eq_true, if_false] at hE hD
    unfold err at hE hC1
    simp at hC1
    simp [htt, hlin, hreg, reg4, hcall, hcallP, hu, l1', l2', l3', hE, hD, hC1]
  | true =>
    have hP' := hP hm
    have hl := hle hm
    rw [hm] at hE hD
    simp only [if_true] at hE hD
    generalize (manT v0 v1 v2 v3 n1 n2 n3 x y z).enc = w at *
    have hl2 : w.length ≤ 140737488355328 := by omega
    simp [htt, hlin, hreg, reg4, hcall, hcallP, hu, l1', l2', l3', hE, hD, hC0, hP', hS', hl2]
end Go.Proofs.Ytjmcgdhekjkjfaa

/- Whatever came in, as the machine over values tells it. -/
set_option linter.unusedSimpArgs false
set_option linter.unusedVariables false
namespace Go.Proofs.Ytjmcgdhekjkjfaa
open Go Go.VM Go.RowKit
variable {G : GE}

theorem ownK : ownKnob Try.prog.godebug = none := by kernel_rfl
theorem laidOutK : laidOutB Try.prog = true := by kernel_rfl

theorem bulk_one {H : Type} (d : DataW H) : 1 ≤ Rows.uptoBulk d := by
  cases d with
  | lit l => cases l <;> simp [Rows.uptoBulk]
  | _ => simp [Rows.uptoBulk]
theorem bulk_len {H : Type} (l : List (DataW H)) : l.length ≤ Rows.uptoBulkAll l := by
  induction l with
  | nil => simp [Rows.uptoBulkAll]
  | cons x r ih => have := bulk_one x; simp only [Rows.uptoBulkAll, List.length_cons]; omega
theorem bulk_mem {H : Type} {d : DataW H} {l : List (DataW H)} (h : d ∈ l) : Rows.uptoBulk d ≤ Rows.uptoBulkAll l := by
  induction l with
  | nil => cases h
  | cons x r ih =>
    simp only [Rows.uptoBulkAll]
    rcases List.mem_cons.1 h with e | e
    · subst e; omega
    · have := ih e; omega
theorem bulk_le {H : Type} {l : List (DataW H)} (hk : Rows.uptoSmall H l = true) : Rows.uptoBulkAll l ≤ 1048576 := of_decide_eq_true hk
mutual
theorem upto_bulk {H : Type} : ∀ d : DataW H, Rows.uptoBulk d = bulk d
  | .lit l => by cases l <;> rfl
  | .nil => rfl
  | .ptr d => by simp only [Rows.uptoBulk, bulk, upto_bulk d]
  | .slice e s => by simp only [Rows.uptoBulk, bulk, upto_bulkAll e, upto_bulkAll s]
  | .agg p => by simp only [Rows.uptoBulk, bulk, upto_bulkAll p]
  | .iface t d => by simp only [Rows.uptoBulk, bulk, upto_bulk d]
  | .map es => by simp only [Rows.uptoBulk, bulk, upto_bulkEs es]
  | .held h => rfl
theorem upto_bulkAll {H : Type} : ∀ l : List (DataW H), Rows.uptoBulkAll l = bulkAll l
  | [] => rfl
  | d :: l => by simp only [Rows.uptoBulkAll, bulkAll, upto_bulk d, upto_bulkAll l]
theorem upto_bulkEs {H : Type} : ∀ l : List (Lit × DataW H), Rows.uptoBulkEntries l = bulkEntries l
  | [] => rfl
  | x :: l => by simp only [Rows.uptoBulkEntries, bulkEntries, upto_bulkE x, upto_bulkEs l]
theorem upto_bulkE {H : Type} : ∀ x : Lit × DataW H, Rows.uptoBulkEntry x = bulkEntry x
  | (l, d) => by cases l <;> simp only [Rows.uptoBulkEntry, bulkEntry, upto_bulk d]
end

theorem fit_int {B f t : Nat} {k : IntKind} {i : TI} (ht : (envG G).tt t = some i) (hk : i.k = .int k) {ds : List D} (h : Fit (envG G).tt B f t ds) : ∃ n, ds = [.int k n] ∧ k.wrap n = n := by
  cases f with
  | zero => exact h.elim
  | succ f => simp only [Fit, ht, hk] at h; exact h
theorem fit_bool {B f t : Nat} {i : TI} (ht : (envG G).tt t = some i) (hk : i.k = .bool) {ds : List D} (h : Fit (envG G).tt B f t ds) : ∃ b, ds = [.bool b] := by
  cases f with
  | zero => exact h.elim
  | succ f => simp only [Fit, ht, hk] at h; exact h
theorem fit_nums {B f t e : Nat} {k : IntKind} {i j : TI} (ht : (envG G).tt t = some i) (hk : i.k = .slice e) (he : (envG G).tt e = some j) (hj : j.k = .int k) {ds : List D} (h : Fit (envG G).tt B f t ds) :
    ∃ nl xs, ds = [.nums k nl xs] ∧ (nl = true → xs = []) ∧ xs.length ≤ B ∧ ∀ x ∈ xs, k.wrap x = x := by
  cases f with
  | zero => exact h.elim
  | succ f => simp only [Fit, ht, hk, he, hj] at h; exact h


theorem agg_in {H : Type} {enc : TypeId × Value → H} {W : World} {arr : Array Value} {d : DataW H} {p : List MemPlace} {t : Nat} (O : EnvOk Try.prog (envG G)) {L : List Nat} (hL : closedB (envG G).tt L = true) (ht : t ∈ L)
    (h : DataW.Trod enc Try.prog W 0 (fun _ => true) true t (.agg arr) d p) {B : Nat} (hb : bulk d ≤ B) :
    ∃ (ds : List D) (f : Nat), RepD W noOwn (.agg arr) (.agg ds) ∧ Fit (envG G).tt B f t ds := by
  obtain ⟨fuel, hf⟩ := h
  obtain ⟨ds, ⟨g1, g2, g3⟩, hfit⟩ := open_any O.tt (L := L) hL B fuel t _ _ ht hf hb
  have e : (Value.agg arr).cells.toList = arr.toList := rfl
  rw [e] at g1 g2 g3
  refine ⟨ds, fuel, .agg arr ds (by simpa using g1.symm) (fun j hj => ?_) (fun j y hy => ?_), hfit⟩
  · have : arr.getD j undef = arr.toList[j]'(by simpa using hj) := by simp [Array.getD, hj]
    rw [this]
    exact g3 _ (List.getElem_mem _)
  · have hlt := (List.getElem?_eq_some_iff.1 hy).1
    rw [g1] at hlt
    have h1 : arr.toList[j]? = some (arr.getD j undef) := by
      have : j < arr.size := by simpa using hlt
      simp [Array.getD, this]
    exact g2 j _ y h1 hy

theorem u8_of {xs : List Int} (h : ∀ x ∈ xs, IntKind.u8.wrap x = x) : ∀ c ∈ xs, 0 ≤ c ∧ c < 256 := fun c hc => by
  have := (wrap_iff .u8 c).1 (h c hc)
  simp [IntKind.min, IntKind.max, IntKind.bits, IntKind.signed] at this
  omega
theorem i64_of {x : Int} (h : IntKind.i64.wrap x = x) : -9223372036854775808 ≤ x ∧ x ≤ 9223372036854775807 := by
  have := (wrap_iff .i64 x).1 h
  simp [IntKind.min, IntKind.max, IntKind.bits, IntKind.signed] at this
  omega
end Go.Proofs.Ytjmcgdhekjkjfaa
