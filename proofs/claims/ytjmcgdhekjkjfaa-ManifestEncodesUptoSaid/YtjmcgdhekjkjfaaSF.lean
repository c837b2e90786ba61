/- What prim.NumberOf and prim.SmallOf hand back. -/
import Derived.Test.YtjmcgdhekjkjfaaSE
import Derived.Test.YtjmcgdhekjkjfaaSD
set_option linter.unusedSimpArgs false
set_option linter.unusedVariables false
namespace Go.Proofs.Ytjmcgdhekjkjfaa
open Go Go.VM
variable {G : GE}
set_option maxRecDepth 100000
set_option maxHeartbeats 4000000

theorem loop_numof {m : Nat} {C : Ctx} {F : Nat} (hC : (envG G).ctx 33 (callN (envG G) F (m)) (callP (envG G) F (m)) = C) {c : Code} (hc : loopAt 1 Try.f33 = some c) (nl : Bool) :
    ∀ (xs : List Int) (k : Nat) (st : St), xs.length < k → st.trim 0 [0] = ⟨[(0, .d (.nums .u8 nl xs))], [], []⟩ →
      iter (ev C F c) 0 [0] [0, 2, 3] k st = some (.exit 0, ⟨[(0, .d (.nums .u8 nl (strip xs)))], [], []⟩) := by
  have htt : C.tt = (envG G).tt := by rw [← hC]; rfl
  have hlin : C.lin = [34, 32, 19, 3, 2, 30] := by rw [← hC]; rfl
  have hreg : C.reg = reg33 := by rw [← hC]; rfl
  have hcall : C.call = callN (envG G) F (m) := by rw [← hC]; rfl
  have hcallP : C.callP = callP (envG G) F (m) := by rw [← hC]; rfl
  have hlv_1 : C.live 1 = [0] := by rw [← hC]; rfl
  have hlv_100001 : C.live 100001 = [0, 2, 3] := by rw [← hC]; rfl
  have hev : ∀ st, ev C F c st = ev C F ((loopAt 1 Try.f33).getD .skip) st := fun st => by rw [hc]; rfl
  intro xs
  induction xs with
  | nil =>
    intro k st hk hst
    obtain ⟨k, rfl⟩ : ∃ j, k = j + 1 := ⟨k - 1, by simp at hk; omega⟩
    rw [iter_eq, hst, hev]
    simp [loopAt, findLoop, Try.f33, htt, hlin, hreg, reg33, hcall, hcallP, hlv_1, hlv_100001, strip]
  | cons b t ih =>
    intro k st hk hst
    obtain ⟨k, rfl⟩ : ∃ j, k = j + 1 := ⟨k - 1, by simp at hk; omega⟩
    simp at hk
    have e1 : (0 : Int) < (t.length : Int) + 1 := by omega
    have e2 : (1 : Int) ≤ (t.length : Int) + 1 := by omega
    rw [iter_eq, hst, hev]
    by_cases h : b = 0
    · subst h
      have hq := fun st h => ih k st hk h
      simp [loopAt, findLoop, Try.f33, htt, hlin, hreg, reg33, hcall, hcallP, hlv_1, hlv_100001, e1, e2, strip]
      exact hq _ (by simp)
    · simp [loopAt, findLoop, Try.f33, htt, hlin, hreg, reg33, hcall, hcallP, hlv_1, hlv_100001, h, e1, e2, strip]

theorem t_NumberOf (F n : Nat) (nl : Bool) (xs : List Int) (hn : nl = true → xs = []) (hf : xs.length < F) : callN (envG G) F (n+2) 33 [.d (.nums .u8 nl xs)] = some (match numberOf xs with
    | .inl e => ⟨[.d (.nums .u8 true []), .d (err e)], [0]⟩
    | .inr ys => ⟨[.d (.nums .u8 false ys), .d .nilifc], [0]⟩) := by
  have kc := fun xs h => t_clone (G := G) F n xs h
  rw [callN_run (fn := Try.f33) rfl rfl rfl (by simp [Try.ntmps33])]
  generalize hC : (envG G).ctx 33 (callN (envG G) F (n+1)) (callP (envG G) F (n+1)) = C
  have htt : C.tt = (envG G).tt := by rw [← hC]; rfl
  have hlin : C.lin = [34, 32, 19, 3, 2, 30] := by rw [← hC]; rfl
  have hreg : C.reg = reg33 := by rw [← hC]; rfl
  have hcall : C.call = callN (envG G) F (n+1) := by rw [← hC]; rfl
  have hcallP : C.callP = callP (envG G) F (n+1) := by rw [← hC]; rfl
  have hlv_1 : C.live 1 = [0] := by rw [← hC]; rfl
  have hlv_100001 : C.live 100001 = [0, 2, 3] := by rw [← hC]; rfl
  have hL := fun st h => loop_numof (G := G) hC rfl nl xs F st hf h
  have hs := strip_len xs
  unfold err numberOf
  clear hC
  simp [htt, hlin, hreg, reg33, hcall, hcallP, hlv_1, hlv_100001, ev_loop]
  rw [hL _ (by simp)]
  by_cases h1 : 64 < (strip xs).length
  · have e1 : (64 : Int) < ((strip xs).length : Int) := by omega
    simp [htt, hlin, hreg, reg33, hcall, hcallP, hlv_1, hlv_100001, h1, e1]
  · have e1 : ¬ (64 : Int) < ((strip xs).length : Int) := by omega
    cases hsx : strip xs with
    | nil => simp [htt, hlin, hreg, reg33, hcall, hcallP, hlv_1, hlv_100001, hsx]
    | cons b t =>
      have hnl : nl = false := by
        cases nl with
        | false => rfl
        | true => rw [hn rfl] at hsx; simp [strip] at hsx
      subst hnl
      rw [hsx] at h1 e1
      simp at h1 e1
      have e2 : ¬ ((t.length : Int) + 1 = 0) := by omega
      have e3 : ¬ (64 < t.length + 1) := by omega
      have e4 : t.length + 1 ≤ 140737488355328 := by omega
      have e5 : ¬ ((64 : Int) < (t.length : Int) + 1) := by omega
      have e6 : 1 + (t.length + 1) ≤ 140737488355328 := by omega
      have e7 : t.length ≤ 140737488355327 := by omega
      by_cases h2 : 128 ≤ b
      · simp [htt, hlin, hreg, reg33, hcall, hcallP, hlv_1, hlv_100001, hsx, h2, e2, e3, e4, e5, e6, e7]
      · simp [htt, hlin, hreg, reg33, hcall, hcallP, hlv_1, hlv_100001, hsx, h2, e2, e3, e4, e5, e6, e7, kc]

theorem four_bytes (m : Int) : ∀ x ∈ four m, 0 ≤ x ∧ x < 256 := by
  intro x hx
  simp only [four, List.mem_cons, List.not_mem_nil, or_false] at hx
  omega

/-- A small number's body. -/
def smallB (m : Int) : List Int := match numberOf (four m) with | .inl _ => [] | .inr ys => ys

theorem t_psmallOf (F n : Nat) (hF : 4 < F) (m : Int) (h : -9223372036854775808 ≤ m ∧ m ≤ 9223372036854775807) : callN (envG G) F (n+3) 23 [.d (.int .i64 m)] = some (if m < 0 ∨ 2147483647 < m then ⟨[.d (.nums .u8 true []), .d (err 3)], []⟩ else
    ⟨[.d (.nums .u8 false (smallB m)), .d .nilifc], [0]⟩) := by
  have a1 := t_NumberOf (G := G) F n false (four m) (by simp) (by simp [four]; omega)
  rw [callN_run (fn := Try.f23) rfl rfl rfl (by simp [Try.ntmps23])]
  generalize hC : (envG G).ctx 23 (callN (envG G) F (n+2)) (callP (envG G) F (n+2)) = C
  have htt : C.tt = (envG G).tt := by rw [← hC]; rfl
  have hlin : C.lin = [] := by rw [← hC]; rfl
  have hreg : C.reg = reg23 := by rw [← hC]; rfl
  have hcall : C.call = callN (envG G) F (n+2) := by rw [← hC]; rfl
  have hcallP : C.callP = callP (envG G) F (n+2) := by rw [← hC]; rfl
  unfold err
  by_cases h0 : m < 0
  · simp [htt, hlin, hreg, reg23, hcall, hcallP, h0]
  · by_cases h1 : 2147483647 < m
    · simp [htt, hlin, hreg, reg23, hcall, hcallP, h0, h1]
    · have s1 : IntKind.i64.wrap (m.fdiv 16777216) = m / 16777216 := by
        rw [Int.fdiv_eq_ediv_of_nonneg _ (by omega)]; exact wrap_ok (by simp; omega) (by simp; omega)
      have s2 : IntKind.i64.wrap (m.fdiv 65536) = m / 65536 := by
        rw [Int.fdiv_eq_ediv_of_nonneg _ (by omega)]; exact wrap_ok (by simp; omega) (by simp; omega)
      have s3 : IntKind.i64.wrap (m.fdiv 256) = m / 256 := by
        rw [Int.fdiv_eq_ediv_of_nonneg _ (by omega)]; exact wrap_ok (by simp; omega) (by simp; omega)
      have w8 : ∀ x, IntKind.u8.wrap x = x % 256 := wrapB8_eq
      obtain ⟨ys, hy, _⟩ := numberOf_dig (m := m) (by omega) (by omega)
      unfold smallB
      rw [hy] at a1 ⊢
      unfold four at a1
      simp [htt, hlin, hreg, reg23, hcall, hcallP, h0, h1, s1, s2, s3, w8, a1]
end Go.Proofs.Ytjmcgdhekjkjfaa

/- What elem.Small, elem.Plain, elem.List hand back. -/
set_option linter.unusedSimpArgs false
set_option linter.unusedVariables false
namespace Go.Proofs.Ytjmcgdhekjkjfaa
open Go Go.VM
variable {G : GE}
set_option maxRecDepth 100000
set_option maxHeartbeats 4000000

theorem t_Plain (F n : Nat) (t : Int) (nl : Bool) (b : List Int) : callN (envG G) F (n+1) 14 [.d (.int .i64 t), .d (.nums .u8 nl b)] = some ⟨[.d (.agg [.int .i64 0, .int .i64 t, .bool false, .nums .u8 nl b, .sl 5 true []])], []⟩ := by
  rw [callN_run (fn := Try.f14) rfl rfl rfl (by simp [Try.ntmps14])]
  generalize hC : (envG G).ctx 14 (callN (envG G) F (n)) (callP (envG G) F (n)) = C
  have htt : C.tt = (envG G).tt := by rw [← hC]; rfl
  have hlin : C.lin = [] := by rw [← hC]; rfl
  have hreg : C.reg = reg14 := by rw [← hC]; rfl
  have hcall : C.call = callN (envG G) F (n) := by rw [← hC]; rfl
  have hcallP : C.callP = callP (envG G) F (n) := by rw [← hC]; rfl
  simp [htt, hlin, hreg, reg14, hcall, hcallP]

theorem t_List (F n : Nat) (nl : Bool) (l : List (List D)) : callN (envG G) F (n+1) 12 [.d (.sl 5 nl l)] = some ⟨[.d (.agg [.int .i64 0, .int .i64 16, .bool true, .nums .u8 true [], .sl 5 nl l])], []⟩ := by
  rw [callN_run (fn := Try.f12) rfl rfl rfl (by simp [Try.ntmps12])]
  generalize hC : (envG G).ctx 12 (callN (envG G) F (n)) (callP (envG G) F (n)) = C
  have htt : C.tt = (envG G).tt := by rw [← hC]; rfl
  have hlin : C.lin = [] := by rw [← hC]; rfl
  have hreg : C.reg = reg12 := by rw [← hC]; rfl
  have hcall : C.call = callN (envG G) F (n) := by rw [← hC]; rfl
  have hcallP : C.callP = callP (envG G) F (n) := by rw [← hC]; rfl
  simp [htt, hlin, hreg, reg12, hcall, hcallP]

theorem t_eSmall (F n : Nat) (hF : 4 < F) (m : Int) (h : -9223372036854775808 ≤ m ∧ m ≤ 9223372036854775807) : callN (envG G) F (n+4) 13 [.d (.int .i64 m)] = some (if m < 0 ∨ 2147483647 < m then
      ⟨[.d (.agg [.int .i64 0, .int .i64 2, .bool false, .nums .u8 true [], .sl 5 true []]), .d (err 3)], []⟩ else
      ⟨[.d (.agg [.int .i64 0, .int .i64 2, .bool false, .nums .u8 false (smallB m), .sl 5 true []]), .d .nilifc], []⟩) := by
  have k1 := t_psmallOf (G := G) F n hF m h
  have k2 := fun nl b => t_Plain (G := G) F (n + 2) 2 nl b
  rw [callN_run (fn := Try.f13) rfl rfl rfl (by simp [Try.ntmps13])]
  generalize hC : (envG G).ctx 13 (callN (envG G) F (n+3)) (callP (envG G) F (n+3)) = C
  have htt : C.tt = (envG G).tt := by rw [← hC]; rfl
  have hlin : C.lin = [] := by rw [← hC]; rfl
  have hreg : C.reg = reg13 := by rw [← hC]; rfl
  have hcall : C.call = callN (envG G) F (n+3) := by rw [← hC]; rfl
  have hcallP : C.callP = callP (envG G) F (n+3) := by rw [← hC]; rfl
  unfold err at *
  by_cases h0 : m < 0 ∨ 2147483647 < m
  · rw [if_pos h0] at k1 ⊢
    simp [htt, hlin, hreg, reg13, hcall, hcallP, k1, k2]
  · rw [if_neg h0] at k1 ⊢
    simp [htt, hlin, hreg, reg13, hcall, hcallP, k1, k2]
end Go.Proofs.Ytjmcgdhekjkjfaa

/- What manifest.Encode hands back: its loops. -/
set_option linter.unusedSimpArgs false
set_option linter.unusedVariables false
namespace Go.Proofs.Ytjmcgdhekjkjfaa
open Go Go.VM
variable {G : GE}
set_option maxRecDepth 100000
set_option maxHeartbeats 16000000

def inB (v : Int) : Bool := !decide (v < 0 ∨ 2147483647 < v)
/-- A small number's element, and bytes'. -/
def numT (v : Int) : Tlv := .mk 0 2 false false (smallB v) true []
def octT (n : Bool) (b : List Int) : Tlv := .mk 0 4 false n b true []
def listT (ks : List Tlv) : Tlv := .mk 0 16 true true [] ks.isEmpty ks

theorem t_eSmall' (F n : Nat) (hF : 4 < F) (m : Int) (h : -9223372036854775808 ≤ m ∧ m ≤ 9223372036854775807) : ∃ D : List D, ∃ e, callN (envG G) F (n+4) 13 [.d (.int .i64 m)] = some ⟨[.d (.agg D), .d e], []⟩ ∧ (inB m = true → D = (numT m).cells ∧ e = .nilifc) ∧ (inB m = false → D = [.int .i64 0, .int .i64 2, .bool false, .nums .u8 true [], .sl 5 true []] ∧ e = err 3) := by
  have k := t_eSmall (G := G) F n hF m h
  by_cases h0 : m < 0 ∨ 2147483647 < m
  · rw [if_pos h0] at k
    exact ⟨_, _, k, fun h => by simp [inB, h0] at h, fun _ => ⟨rfl, rfl⟩⟩
  · rw [if_neg h0] at k
    exact ⟨_, _, k, fun _ => ⟨rfl, rfl⟩, fun h => by simp [inB, h0] at h⟩

def manC (v0 v1 v2 v3 : Int) (x y z : D) : Blk := .cells false [.d (.int .i64 v0), .d (.int .i64 v1), .d (.int .i64 v2), .d (.int .i64 v3), .d x, .d y, .d z]
def lstC (kn : Bool) (ks : List Tlv) : Blk := .cells false [.d (.int .i64 0), .d (.int .i64 16), .d (.bool true), .d (.nums .u8 true []), .d (.sl 5 kn (Tlv.cellsL ks))]

theorem loop_enc1 {m : Nat} {C : Ctx} {F : Nat} (hC : (envG G).ctx 7 (callN (envG G) F (m)) (callP (envG G) F (m)) = C) {c : Code} (hc : loopAt 5 Try.f7 = some c) (v0 v1 v2 v3 : Int) (x y z : D) (os : List Pl) (hos : os = [.t 37, .b 1 4, .b 1 3])
    (hg : ∀ v, v = v0 ∨ v = v1 ∨ v = v2 ∨ v = v3 → callN (envG G) F m 13 [.d (.int .i64 v)] = some (if inB v then ⟨[.d (.agg (numT v).cells), .d .nilifc], []⟩ else ⟨[.d (.agg [.int .i64 0, .int .i64 2, .bool false, .nums .u8 true [], .sl 5 true []]), .d (err 3)], []⟩)) (k : Nat) (st : St)
    (hst : st.trim 2 [1, 4, 37, 38, 39] = ⟨[(1, .ptr 0 0), (4, .ptr 1 0), (37, .d (.nums .i64 false [v0, v1, v2, v3])), (38, .d (.int .i64 4)), (39, .d (.int .i64 0))], [some (manC v0 v1 v2 v3 x y z), some (lstC true [])], os⟩) :
    if inB v0 && inB v1 && inB v2 && inB v3 then
      iter (ev C F c) 2 [1, 4, 37, 38, 39] [1, 2, 3, 4] (k + 5) st = some (.exit 0, ⟨[(1, .ptr 0 0), (4, .ptr 1 0)], [some (manC v0 v1 v2 v3 x y z), some (lstC false [numT v0, numT v1, numT v2, numT v3])], [.b 1 4, .b 1 3]⟩)
    else ∃ st', iter (ev C F c) 2 [1, 4, 37, 38, 39] [1, 2, 3, 4] (k + 5) st = some (.ret, st') ∧ finish C Try.f7.results.toList (some (.ret, st')) = some ⟨[.d (.nums .u8 true []), .d (err 1)], [0]⟩ := by
  have htt : C.tt = (envG G).tt := by rw [← hC]; rfl
  have hlin : C.lin = [81, 80, 50, 27, 3, 2, 52, 71] := by rw [← hC]; rfl
  have hreg : C.reg = reg7 := by rw [← hC]; rfl
  have hcall : C.call = callN (envG G) F (m) := by rw [← hC]; rfl
  have hcallP : C.callP = callP (envG G) F (m) := by rw [← hC]; rfl
  have hlv_5 : C.live 5 = [1, 4, 37, 38, 39] := by rw [← hC]; rfl
  have hlv_100005 : C.live 100005 = [1, 2, 3, 4] := by rw [← hC]; rfl
  have hlv_13 : C.live 13 = [4, 64, 65, 66] := by rw [← hC]; rfl
  have hlv_100013 : C.live 100013 = [2, 3, 4] := by rw [← hC]; rfl
  have hlv_200015 : C.live 200015 = [3] := by rw [← hC]; rfl
  have hlv_250015 : C.live 250015 = [71] := by rw [← hC]; rfl
  have hlv_300015 : C.live 300015 = [] := by rw [← hC]; rfl
  have hev : ∀ st, ev C F c st = ev C F ((loopAt 5 Try.f7).getD .skip) st := fun st => by rw [hc]; rfl
  have g0 := hg v0 (.inl rfl)
  have g1 := hg v1 (.inr (.inl rfl))
  have g2 := hg v2 (.inr (.inr (.inl rfl)))
  have g3 := hg v3 (.inr (.inr (.inr rfl)))
  clear hg
  unfold manC lstC at *
  unfold err at *
  simp only [numT, Tlv.cells, Tlv.cellsL] at g0 g1 g2 g3 hst ⊢
  generalize inB v0 = s0 at *
  generalize inB v1 = s1 at *
  generalize inB v2 = s2 at *
  generalize inB v3 = s3 at *
  rw [iter_eq, hst, hev]
  subst hos
  all_goals (
    cases s0
    case false => simp [loopAt, findLoop, Try.f7, htt, hlin, hreg, reg7, hcall, hcallP, hlv_5, hlv_100005, hlv_13, hlv_100013, hlv_200015, hlv_250015, hlv_300015, g0]
    simp [loopAt, findLoop, Try.f7, htt, hlin, hreg, reg7, hcall, hcallP, hlv_5, hlv_100005, hlv_13, hlv_100013, hlv_200015, hlv_250015, hlv_300015, g0]
    rw [iter_eq, hev]
    cases s1
    case false => simp [loopAt, findLoop, Try.f7, htt, hlin, hreg, reg7, hcall, hcallP, hlv_5, hlv_100005, hlv_13, hlv_100013, hlv_200015, hlv_250015, hlv_300015, g1]
    simp [loopAt, findLoop, Try.f7, htt, hlin, hreg, reg7, hcall, hcallP, hlv_5, hlv_100005, hlv_13, hlv_100013, hlv_200015, hlv_250015, hlv_300015, g1]
    rw [iter_eq, hev]
    cases s2
    case false => simp [loopAt, findLoop, Try.f7, htt, hlin, hreg, reg7, hcall, hcallP, hlv_5, hlv_100005, hlv_13, hlv_100013, hlv_200015, hlv_250015, hlv_300015, g2]
    simp [loopAt, findLoop, Try.f7, htt, hlin, hreg, reg7, hcall, hcallP, hlv_5, hlv_100005, hlv_13, hlv_100013, hlv_200015, hlv_250015, hlv_300015, g2]
    rw [iter_eq, hev]
    cases s3
    case false => simp [loopAt, findLoop, Try.f7, htt, hlin, hreg, reg7, hcall, hcallP, hlv_5, hlv_100005, hlv_13, hlv_100013, hlv_200015, hlv_250015, hlv_300015, g3]
    simp [loopAt, findLoop, Try.f7, htt, hlin, hreg, reg7, hcall, hcallP, hlv_5, hlv_100005, hlv_13, hlv_100013, hlv_200015, hlv_250015, hlv_300015, g3]
    rw [iter_eq, hev]
    simp [loopAt, findLoop, Try.f7, htt, hlin, hreg, reg7, hcall, hcallP, hlv_5, hlv_100005, hlv_13, hlv_100013, hlv_200015, hlv_250015, hlv_300015, g3])
end Go.Proofs.Ytjmcgdhekjkjfaa

/- What manifest.Encode hands back. -/
set_option linter.unusedSimpArgs false
set_option linter.unusedVariables false
namespace Go.Proofs.Ytjmcgdhekjkjfaa
open Go Go.VM
variable {G : GE}
set_option maxRecDepth 100000
set_option maxHeartbeats 16000000

theorem loop_enc2 {m : Nat} {C : Ctx} {F : Nat} (hC : (envG G).ctx 7 (callN (envG G) F (m)) (callP (envG G) F (m)) = C) {c : Code} (hc : loopAt 13 Try.f7 = some c) (v0 v1 v2 v3 : Int) (n1 n2 n3 : Bool) (x y z : List Int) (B0 : Blk) (hB0 : oldB 2 (some B0) = some B0) (os : List Pl) (hos : os = [.t 64, .b 1 4, .b 1 3])
    (hg : ∀ nl b, callN (envG G) F m 14 [.d (.int .i64 4), .d (.nums .u8 nl b)] = some ⟨[.d (.agg [.int .i64 0, .int .i64 4, .bool false, .nums .u8 nl b, .sl 5 true []])], []⟩) (k : Nat) (st : St)
    (hst : st.trim 2 [4, 64, 65, 66] = ⟨[(4, .ptr 1 0), (64, .d (.sl 1 false [[.nums .u8 n1 x], [.nums .u8 n2 y], [.nums .u8 n3 z]])), (65, .d (.int .i64 3)), (66, .d (.int .i64 0))], [some B0, some (lstC false [numT v0, numT v1, numT v2, numT v3])], os⟩) :
      iter (ev C F c) 2 [4, 64, 65, 66] [2, 3, 4] (k + 4) st = some (.exit 2, ⟨[(4, .ptr 1 0)], [some B0, some (lstC false [numT v0, numT v1, numT v2, numT v3, octT n1 x, octT n2 y, octT n3 z])], [.b 1 4, .b 1 3]⟩) := by
  have htt : C.tt = (envG G).tt := by rw [← hC]; rfl
  have hlin : C.lin = [81, 80, 50, 27, 3, 2, 52, 71] := by rw [← hC]; rfl
  have hreg : C.reg = reg7 := by rw [← hC]; rfl
  have hcall : C.call = callN (envG G) F (m) := by rw [← hC]; rfl
  have hcallP : C.callP = callP (envG G) F (m) := by rw [← hC]; rfl
  have hlv_5 : C.live 5 = [1, 4, 37, 38, 39] := by rw [← hC]; rfl
  have hlv_100005 : C.live 100005 = [1, 2, 3, 4] := by rw [← hC]; rfl
  have hlv_13 : C.live 13 = [4, 64, 65, 66] := by rw [← hC]; rfl
  have hlv_100013 : C.live 100013 = [2, 3, 4] := by rw [← hC]; rfl
  have hlv_200015 : C.live 200015 = [3] := by rw [← hC]; rfl
  have hlv_250015 : C.live 250015 = [71] := by rw [← hC]; rfl
  have hlv_300015 : C.live 300015 = [] := by rw [← hC]; rfl
  have hev : ∀ st, ev C F c st = ev C F ((loopAt 13 Try.f7).getD .skip) st := fun st => by rw [hc]; rfl
  subst hos
  unfold lstC at *
  simp only [numT, octT, Tlv.cells, Tlv.cellsL] at hst ⊢
  rw [iter_eq, hst, hev]
  simp [loopAt, findLoop, Try.f7, htt, hlin, hreg, reg7, hcall, hcallP, hlv_5, hlv_100005, hlv_13, hlv_100013, hlv_200015, hlv_250015, hlv_300015, hg, hB0]
  rw [iter_eq, hev]
  simp [loopAt, findLoop, Try.f7, htt, hlin, hreg, reg7, hcall, hcallP, hlv_5, hlv_100005, hlv_13, hlv_100013, hlv_200015, hlv_250015, hlv_300015, hg, hB0]
  rw [iter_eq, hev]
  simp [loopAt, findLoop, Try.f7, htt, hlin, hreg, reg7, hcall, hcallP, hlv_5, hlv_100005, hlv_13, hlv_100013, hlv_200015, hlv_250015, hlv_300015, hg, hB0]
  rw [iter_eq, hev]
  simp [loopAt, findLoop, Try.f7, htt, hlin, hreg, reg7, hcall, hcallP, hlv_5, hlv_100005, hlv_13, hlv_100013, hlv_200015, hlv_250015, hlv_300015, hg, hB0]

/-- What a manifest is written as. -/
def manT (v0 v1 v2 v3 : Int) (n1 n2 n3 : Bool) (x y z : List Int) : Tlv := listT [numT v0, numT v1, numT v2, numT v3, octT n1 x, octT n2 y, octT n3 z]
def manOk (v0 v1 v2 v3 : Int) (x y z : List Int) : Bool := (inB v0 && inB v1 && inB v2 && inB v3) && decide (x.length = 12 ∧ y.length = 145 ∧ z.length = 48)

theorem t_Encode (F : Nat) (hF : 1048580 < F) (hF2 : F ≤ 140737488355328) (n : Nat) (v0 v1 v2 v3 : Int) (n1 n2 n3 : Bool) (x y z : List Int)
    (r0 : -9223372036854775808 ≤ v0 ∧ v0 ≤ 9223372036854775807) (r1 : -9223372036854775808 ≤ v1 ∧ v1 ≤ 9223372036854775807) (r2 : -9223372036854775808 ≤ v2 ∧ v2 ≤ 9223372036854775807) (r3 : -9223372036854775808 ≤ v3 ∧ v3 ≤ 9223372036854775807)
    (hw : manOk v0 v1 v2 v3 x y z = true → callN (envG G) F (n + 29) 15 [.d (.agg (manT v0 v1 v2 v3 n1 n2 n3 x y z).cells)] = some ⟨[.d (.nums .u8 false (manT v0 v1 v2 v3 n1 n2 n3 x y z).enc), .d .nilifc], [0]⟩) :
    callN (envG G) F (n + 30) 7 [.d (.agg [.int .i64 v0, .int .i64 v1, .int .i64 v2, .int .i64 v3, .nums .u8 n1 x, .nums .u8 n2 y, .nums .u8 n3 z])] =
      some (if manOk v0 v1 v2 v3 x y z then ⟨[.d (.nums .u8 false (manT v0 v1 v2 v3 n1 n2 n3 x y z).enc), .d .nilifc], [0]⟩ else ⟨[.d (.nums .u8 true []), .d (err 1)], [0]⟩) := by
  have kS : ∀ v, v = v0 ∨ v = v1 ∨ v = v2 ∨ v = v3 → callN (envG G) F (n + 29) 13 [.d (.int .i64 v)] = some (if inB v then ⟨[.d (.agg (numT v).cells), .d .nilifc], []⟩ else ⟨[.d (.agg [.int .i64 0, .int .i64 2, .bool false, .nums .u8 true [], .sl 5 true []]), .d (err 3)], []⟩) := fun v hv => by
    have hr : -9223372036854775808 ≤ v ∧ v ≤ 9223372036854775807 := by rcases hv with rfl | rfl | rfl | rfl <;> assumption
    have := t_eSmall (G := G) F (n + 25) (by omega) v hr
    rw [show n + 25 + 4 = n + 29 by omega] at this
    rw [this]
    unfold inB
    by_cases h : v < 0 ∨ 2147483647 < v
    · simp [h]
    · simp [h]; rfl
  have kP : ∀ nl b, callN (envG G) F (n + 29) 14 _ = _ := fun nl b => t_Plain (G := G) F (n + 28) 4 nl b
  have kL : callN (envG G) F (n + 29) _ _ = _ := t_List (G := G) F (n + 28) true []
  rw [callN_run (fn := Try.f7) rfl rfl rfl (by simp [Try.ntmps7])]
  generalize hC : (envG G).ctx 7 (callN (envG G) F (n+29)) (callP (envG G) F (n+29)) = C
  have htt : C.tt = (envG G).tt := by rw [← hC]; rfl
  have hlin : C.lin = [81, 80, 50, 27, 3, 2, 52, 71] := by rw [← hC]; rfl
  have hreg : C.reg = reg7 := by rw [← hC]; rfl
  have hcall : C.call = callN (envG G) F (n+29) := by rw [← hC]; rfl
  have hcallP : C.callP = callP (envG G) F (n+29) := by rw [← hC]; rfl
  have hlv_5 : C.live 5 = [1, 4, 37, 38, 39] := by rw [← hC]; rfl
  have hlv_100005 : C.live 100005 = [1, 2, 3, 4] := by rw [← hC]; rfl
  have hlv_13 : C.live 13 = [4, 64, 65, 66] := by rw [← hC]; rfl
  have hlv_100013 : C.live 100013 = [2, 3, 4] := by rw [← hC]; rfl
  have hlv_200015 : C.live 200015 = [3] := by rw [← hC]; rfl
  have hlv_250015 : C.live 250015 = [71] := by rw [← hC]; rfl
  have hlv_300015 : C.live 300015 = [] := by rw [← hC]; rfl
  have hL1 := fun os hos st h => by
    have hq := loop_enc1 (G := G) hC rfl v0 v1 v2 v3 (.nums .u8 n1 x) (.nums .u8 n2 y) (.nums .u8 n3 z) os hos kS (F - 5) st h
    rw [show F - 5 + 5 = F by omega] at hq
    exact hq
  have hL2 := fun B0 hB0 os hos st h => by
    have hq := loop_enc2 (G := G) hC rfl v0 v1 v2 v3 n1 n2 n3 x y z B0 hB0 os hos kP (F - 4) st h
    rw [show F - 4 + 4 = F by omega] at hq
    exact hq
  clear hC kS kP
  unfold manOk at *
  by_cases hx : x.length = 12
  case neg =>
    have hx' : ¬ (x.length : Int) = 12 := by omega
    unfold err
    simp [htt, hlin, hreg, reg7, hcall, hcallP, hlv_5, hlv_100005, hlv_13, hlv_100013, hlv_200015, hlv_250015, hlv_300015, hx, hx']
  by_cases hy : y.length = 145
  case neg =>
    have hx' : (x.length : Int) = 12 := by omega
    have hy' : ¬ (y.length : Int) = 145 := by omega
    unfold err
    simp [htt, hlin, hreg, reg7, hcall, hcallP, hlv_5, hlv_100005, hlv_13, hlv_100013, hlv_200015, hlv_250015, hlv_300015, hx, hx', hy, hy']
  by_cases hz : z.length = 48
  case neg =>
    have hx' : (x.length : Int) = 12 := by omega
    have hy' : (y.length : Int) = 145 := by omega
    have hz' : ¬ (z.length : Int) = 48 := by omega
    unfold err
    simp [htt, hlin, hreg, reg7, hcall, hcallP, hlv_5, hlv_100005, hlv_13, hlv_100013, hlv_200015, hlv_250015, hlv_300015, hx, hx', hy, hy', hz, hz']
  rw [decide_eq_true ⟨hx, hy, hz⟩, Bool.and_true] at hw ⊢
  have hx' : (x.length : Int) = 12 := by omega
  have hy' : (y.length : Int) = 145 := by omega
  have hz' : (z.length : Int) = 48 := by omega
  unfold manT listT at hw ⊢
  simp only [Tlv.cells, List.isEmpty_cons] at hw
  simp [htt, hlin, hreg, reg7, hcall, hcallP, hlv_5, hlv_100005, hlv_13, hlv_100013, hlv_200015, hlv_250015, hlv_300015, hx', hy', hz', kL, ev_loop]
  have hL1' := fun st h => hL1 _ rfl st h
  clear hL1
  unfold manC lstC at hL1'
  simp only [Tlv.cellsL] at hL1'
  generalize hs : (inB v0 && inB v1 && inB v2 && inB v3) = s at *
  have hs2 : ((inB v0 = true ∧ inB v1 = true) ∧ inB v2 = true) ∧ inB v3 = true ↔ s = true := by rw [← hs]; simp
  simp only [hs2]
  clear hs2 hs
  cases s with
  | false =>
    simp only [Bool.false_eq_true, if_false] at hL1' ⊢
    have hL := fun st h => Classical.choose_spec (hL1' st h)
    simp [Try.f7, htt, hlin, hreg, reg7, hcall, hcallP, hlv_5, hlv_100005, hlv_13, hlv_100013, hlv_200015, hlv_250015, hlv_300015] at hL
    rw [(hL _ (by simp)).1]
    simp [htt, hlin, hreg, reg7, hcall, hcallP, hlv_5, hlv_100005, hlv_13, hlv_100013, hlv_200015, hlv_250015, hlv_300015]
    exact (hL _ (by simp)).2
  | true =>
    simp only [if_true] at hL1' ⊢
    have hw' := hw rfl
    rw [hL1' _ (by simp)]
    unfold lstC at hL2
    simp [htt, hlin, hreg, reg7, hcall, hcallP, hlv_5, hlv_100005, hlv_13, hlv_100013, hlv_200015, hlv_250015, hlv_300015, ev_loop]
    have hL2' := fun st h => hL2 (.cells false [.d (.int .i64 v0), .d (.int .i64 v1), .d (.int .i64 v2), .d (.int .i64 v3), .d (.nums .u8 n1 x), .d (.nums .u8 n2 y), .d (.nums .u8 n3 z)]) (by simp) _ rfl st h
    rw [hL2' _ (by simp [Tlv.cellsL])]
    simp [htt, hlin, hreg, reg7, hcall, hcallP, hlv_5, hlv_100005, hlv_13, hlv_100013, hlv_200015, hlv_250015, hlv_300015, hw']
end Go.Proofs.Ytjmcgdhekjkjfaa

/- What manifest.Decode hands back: its loops. -/
set_option linter.unusedSimpArgs false
set_option linter.unusedVariables false
namespace Go.Proofs.Ytjmcgdhekjkjfaa
open Go Go.VM
variable {G : GE}
set_option maxRecDepth 100000
set_option maxHeartbeats 16000000

/-- Is it a small number, and which? -/
def Tlv.isSmall : Tlv → Bool
  | .mk x1 x2 x3 _ x5 _ _ => decide (x1 = 0 ∧ x2 = 2 ∧ x3 = false) && smallOk x5
def Tlv.valS : Tlv → Int
  | .mk _ _ _ _ x5 _ _ => smallV x5
/-- Are its bytes such ones as can be? -/
def Tlv.plainOk : Tlv → Prop
  | .mk _ _ _ x4 x5 _ _ => (x4 = true → x5 = []) ∧ x5.length ≤ 140737488355327 ∧ ∀ x ∈ x5, 0 ≤ x ∧ x < 256

theorem t_SmallOf' (F n : Nat) (hF : 100 ≤ F) (x : Tlv) (h : x.plainOk) : ∃ v, callN (envG G) F (n+4) 21 [.d (.agg x.cells)] = some ⟨[.d (.int .i64 v), .d (.bool x.isSmall)], []⟩ ∧ (x.isSmall = true → v = x.valS) := by
  obtain ⟨x1, x2, x3, x4, x5, x6, x7⟩ := x
  have k := t_SmallOf (G := G) F n hF x1 x2 x3 x4 x5 x6 x7 h.1 (by have := h.2.1; omega) h.2.2
  simp only [Tlv.cells, Tlv.isSmall, Tlv.valS]
  by_cases hc : x1 = 0 ∧ x2 = 2 ∧ x3 = false
  · rw [if_pos hc] at k
    exact ⟨_, by rw [k, decide_eq_true hc, Bool.true_and], fun _ => rfl⟩
  · rw [if_neg hc] at k
    exact ⟨_, by rw [k, decide_eq_false hc, Bool.false_and], fun h => by rw [decide_eq_false hc] at h; cases h⟩

def zeroM : Blk := .cells false [.d (.int .i64 0), .d (.int .i64 0), .d (.int .i64 0), .d (.int .i64 0), .d (.nums .u8 true []), .d (.nums .u8 true []), .d (.nums .u8 true [])]
def fourP : Blk := .cells false [.ptr 2 0, .ptr 2 1, .ptr 2 2, .ptr 2 3]
def tlvK (p0 p1 p2 p3 : D) (x6 : Bool) (x7 : List Tlv) : Blk := .cells false [.d p0, .d p1, .d p2, .d p3, .d (.sl 5 x6 (Tlv.cellsL x7))]
def zeroMD : D := .agg [.int .i64 0, .int .i64 0, .int .i64 0, .int .i64 0, .nums .u8 true [], .nums .u8 true [], .nums .u8 true []]

theorem loop_dec1 {m : Nat} {C : Ctx} {F : Nat} (hC : (envG G).ctx 10 (callN (envG G) F (m)) (callP (envG G) F (m)) = C) {c : Code} (hc : loopAt 8 Try.f10 = some c) (p0 p1 p2 p3 : D) (x6 : Bool) (x7 : List Tlv) (k0 k1 k2 k3 : Tlv) (v0 v1 v2 v3 : Int)
    (h0 : x7[0]? = some k0) (h1 : x7[1]? = some k1) (h2 : x7[2]? = some k2) (h3 : x7[3]? = some k3)
    (g0 : callN (envG G) F m 21 [.d (.agg k0.cells)] = some ⟨[.d (.int .i64 v0), .d (.bool k0.isSmall)], []⟩)
    (g1 : callN (envG G) F m 21 [.d (.agg k1.cells)] = some ⟨[.d (.int .i64 v1), .d (.bool k1.isSmall)], []⟩)
    (g2 : callN (envG G) F m 21 [.d (.agg k2.cells)] = some ⟨[.d (.int .i64 v2), .d (.bool k2.isSmall)], []⟩)
    (g3 : callN (envG G) F m 21 [.d (.agg k3.cells)] = some ⟨[.d (.int .i64 v3), .d (.bool k3.isSmall)], []⟩) (k : Nat) (st : St)
    (hst : st.trim 4 [2, 4, 6, 33, 34, 35] = ⟨[(2, .ptr 0 0), (4, .ptr 1 0), (6, .ptr 2 0), (33, .mu 3 0 4 4 1), (34, .d (.int .i64 4)), (35, .d (.int .i64 0))], [some zeroM, some (tlvK p0 p1 p2 p3 x6 x7), some zeroM, some fourP], []⟩) :
    if k0.isSmall && k1.isSmall && k2.isSmall && k3.isSmall then
      iter (ev C F c) 4 [2, 4, 6, 33, 34, 35] [2, 3, 4, 6] (k + 5) st = some (.exit 0, ⟨[(2, .ptr 0 0), (4, .ptr 1 0), (6, .ptr 2 0)], [some zeroM, some (tlvK p0 p1 p2 p3 x6 x7), some (.cells false [.d (.int .i64 v0), .d (.int .i64 v1), .d (.int .i64 v2), .d (.int .i64 v3), .d (.nums .u8 true []), .d (.nums .u8 true []), .d (.nums .u8 true [])]), some fourP], []⟩)
    else ∃ st', iter (ev C F c) 4 [2, 4, 6, 33, 34, 35] [2, 3, 4, 6] (k + 5) st = some (.ret, st') ∧ finish C Try.f10.results.toList (some (.ret, st')) = some ⟨[.d zeroMD, .d (err 7)], []⟩ := by
  have htt : C.tt = (envG G).tt := by rw [← hC]; rfl
  have hlin : C.lin = [] := by rw [← hC]; rfl
  have hreg : C.reg = reg10 := by rw [← hC]; rfl
  have hcall : C.call = callN (envG G) F (m) := by rw [← hC]; rfl
  have hcallP : C.callP = callP (envG G) F (m) := by rw [← hC]; rfl
  have hlv_8 : C.live 8 = [2, 4, 6, 33, 34, 35] := by rw [← hC]; rfl
  have hlv_100008 : C.live 100008 = [2, 3, 4, 6] := by rw [← hC]; rfl
  have hlv_17 : C.live 17 = [2, 4, 6, 11, 61, 62, 63] := by rw [← hC]; rfl
  have hlv_100017 : C.live 100017 = [2, 3, 6] := by rw [← hC]; rfl
  have hlv_200020 : C.live 200020 = [] := by rw [← hC]; rfl
  have hlv_250020 : C.live 250020 = [] := by rw [← hC]; rfl
  have hev : ∀ st, ev C F c st = ev C F ((loopAt 8 Try.f10).getD .skip) st := fun st => by rw [hc]; rfl
  have r0 : (Tlv.cellsL x7)[0]? = some k0.cells := by rw [cellsL_map, List.getElem?_map, h0]; rfl
  have r1 : (Tlv.cellsL x7)[1]? = some k1.cells := by rw [cellsL_map, List.getElem?_map, h1]; rfl
  have r2 : (Tlv.cellsL x7)[2]? = some k2.cells := by rw [cellsL_map, List.getElem?_map, h2]; rfl
  have r3 : (Tlv.cellsL x7)[3]? = some k3.cells := by rw [cellsL_map, List.getElem?_map, h3]; rfl
  clear h0 h1 h2 h3
  unfold zeroM fourP tlvK at *
  unfold zeroMD err
  generalize hs0 : k0.isSmall = s0 at *
  generalize hs1 : k1.isSmall = s1 at *
  generalize hs2 : k2.isSmall = s2 at *
  generalize hs3 : k3.isSmall = s3 at *
  obtain ⟨a1, a2, a3, a4, a5, a6, a7⟩ := k0
  obtain ⟨b1, b2, b3, b4, b5, b6, b7⟩ := k1
  obtain ⟨c1, c2, c3, c4, c5, c6, c7⟩ := k2
  obtain ⟨d1, d2, d3, d4, d5, d6, d7⟩ := k3
  simp only [Tlv.cells] at r0 r1 r2 r3 g0 g1 g2 g3
  clear hs0 hs1 hs2 hs3
  rw [iter_eq, hst, hev]
  cases s0
  case false => simp [loopAt, findLoop, Try.f10, htt, hlin, hreg, reg10, hcall, hcallP, hlv_8, hlv_100008, hlv_17, hlv_100017, hlv_200020, hlv_250020, r0, g0]
  simp [loopAt, findLoop, Try.f10, htt, hlin, hreg, reg10, hcall, hcallP, hlv_8, hlv_100008, hlv_17, hlv_100017, hlv_200020, hlv_250020, r0, g0]
  rw [iter_eq, hev]
  cases s1
  case false => simp [loopAt, findLoop, Try.f10, htt, hlin, hreg, reg10, hcall, hcallP, hlv_8, hlv_100008, hlv_17, hlv_100017, hlv_200020, hlv_250020, r1, g1]
  simp [loopAt, findLoop, Try.f10, htt, hlin, hreg, reg10, hcall, hcallP, hlv_8, hlv_100008, hlv_17, hlv_100017, hlv_200020, hlv_250020, r1, g1]
  rw [iter_eq, hev]
  cases s2
  case false => simp [loopAt, findLoop, Try.f10, htt, hlin, hreg, reg10, hcall, hcallP, hlv_8, hlv_100008, hlv_17, hlv_100017, hlv_200020, hlv_250020, r2, g2]
  simp [loopAt, findLoop, Try.f10, htt, hlin, hreg, reg10, hcall, hcallP, hlv_8, hlv_100008, hlv_17, hlv_100017, hlv_200020, hlv_250020, r2, g2]
  rw [iter_eq, hev]
  cases s3
  case false => simp [loopAt, findLoop, Try.f10, htt, hlin, hreg, reg10, hcall, hcallP, hlv_8, hlv_100008, hlv_17, hlv_100017, hlv_200020, hlv_250020, r3, g3]
  simp [loopAt, findLoop, Try.f10, htt, hlin, hreg, reg10, hcall, hcallP, hlv_8, hlv_100008, hlv_17, hlv_100017, hlv_200020, hlv_250020, r3, g3]
  rw [iter_eq, hev]
  simp [loopAt, findLoop, Try.f10, htt, hlin, hreg, reg10, hcall, hcallP, hlv_8, hlv_100008, hlv_17, hlv_100017, hlv_200020, hlv_250020, r3, g3]

def threeP : Blk := .cells false [.ptr 2 4, .ptr 2 5, .ptr 2 6]
/-- Is it bytes, so many? -/
def Tlv.isBytes (n : Nat) : Tlv → Bool
  | .mk x1 x2 x3 _ x5 _ _ => decide (x1 = 0 ∧ x2 = 4 ∧ x3 = false ∧ x5.length = n)
def Tlv.bodyD : Tlv → D
  | .mk _ _ _ x4 x5 _ _ => .nums .u8 x4 x5
def Tlv.body : Tlv → List Int
  | .mk _ _ _ _ x5 _ _ => x5
def Tlv.bnil : Tlv → Bool
  | .mk _ _ _ x4 _ _ _ => x4

theorem t_IsPlain' (F n : Nat) (x : Tlv) (k : Int) : ∃ b, callN (envG G) F (n+1) 22 [.d (.agg x.cells), .d (.int .i64 k)] = some ⟨[.d (.bool b)], []⟩ ∧ (k = 4 → ∀ n, (b && decide (x.body.length = n)) = x.isBytes n) := by
  obtain ⟨x1, x2, x3, x4, x5, x6, x7⟩ := x
  refine ⟨_, t_IsPlain (G := G) F n x1 x2 x3 x4 x5 x6 x7 k, fun hk n => ?_⟩
  subst hk
  simp only [Tlv.isBytes, Tlv.body]
  by_cases hl : x5.length = n <;> by_cases h1 : x1 = 0 <;> by_cases h2 : x2 = 4 <;> by_cases h3 : x3 = false <;> simp [h1, h2, h3, hl]

theorem loop_dec2 {m : Nat} {C : Ctx} {F : Nat} (hC : (envG G).ctx 10 (callN (envG G) F (m)) (callP (envG G) F (m)) = C) {c : Code} (hc : loopAt 17 Try.f10 = some c) (p0 p1 p2 p3 : D) (x6 : Bool) (x7 : List Tlv) (k4 k5 k6 : Tlv) (v0 v1 v2 v3 : Int) (b4 b5 b6 : Bool)
    (h4 : x7[4]? = some k4) (h5 : x7[5]? = some k5) (h6 : x7[6]? = some k6)
    (g4 : callN (envG G) F m 22 [.d (.agg k4.cells), .d (.int .i64 4)] = some ⟨[.d (.bool b4)], []⟩)
    (g5 : callN (envG G) F m 22 [.d (.agg k5.cells), .d (.int .i64 4)] = some ⟨[.d (.bool b5)], []⟩)
    (g6 : callN (envG G) F m 22 [.d (.agg k6.cells), .d (.int .i64 4)] = some ⟨[.d (.bool b6)], []⟩) (k : Nat) (st : St)
    (hst : st.trim 5 [2, 4, 6, 11, 61, 62, 63] = ⟨[(2, .ptr 0 0), (4, .ptr 1 0), (6, .ptr 2 0), (11, .d (.nums .i64 false [12, 145, 48])), (61, .mu 4 0 3 3 1), (62, .d (.int .i64 3)), (63, .d (.int .i64 0))],
      [some zeroM, some (tlvK p0 p1 p2 p3 x6 x7), some (.cells false [.d (.int .i64 v0), .d (.int .i64 v1), .d (.int .i64 v2), .d (.int .i64 v3), .d (.nums .u8 true []), .d (.nums .u8 true []), .d (.nums .u8 true [])]), some fourP, some threeP], [.t 11]⟩) :
    if (b4 && decide (k4.body.length = 12)) && (b5 && decide (k5.body.length = 145)) && (b6 && decide (k6.body.length = 48)) then
      iter (ev C F c) 5 [2, 4, 6, 11, 61, 62, 63] [2, 3, 6] (k + 4) st = some (.exit 2, ⟨[(2, .ptr 0 0), (6, .ptr 2 0)], [some zeroM, some (tlvK p0 p1 p2 p3 x6 x7), some (.cells false [.d (.int .i64 v0), .d (.int .i64 v1), .d (.int .i64 v2), .d (.int .i64 v3), .d k4.bodyD, .d k5.bodyD, .d k6.bodyD]), some fourP, some threeP], []⟩)
    else ∃ st', iter (ev C F c) 5 [2, 4, 6, 11, 61, 62, 63] [2, 3, 6] (k + 4) st = some (.ret, st') ∧ finish C Try.f10.results.toList (some (.ret, st')) = some ⟨[.d zeroMD, .d (err 7)], []⟩ := by
  have htt : C.tt = (envG G).tt := by rw [← hC]; rfl
  have hlin : C.lin = [] := by rw [← hC]; rfl
  have hreg : C.reg = reg10 := by rw [← hC]; rfl
  have hcall : C.call = callN (envG G) F (m) := by rw [← hC]; rfl
  have hcallP : C.callP = callP (envG G) F (m) := by rw [← hC]; rfl
  have hlv_8 : C.live 8 = [2, 4, 6, 33, 34, 35] := by rw [← hC]; rfl
  have hlv_100008 : C.live 100008 = [2, 3, 4, 6] := by rw [← hC]; rfl
  have hlv_17 : C.live 17 = [2, 4, 6, 11, 61, 62, 63] := by rw [← hC]; rfl
  have hlv_100017 : C.live 100017 = [2, 3, 6] := by rw [← hC]; rfl
  have hlv_200020 : C.live 200020 = [] := by rw [← hC]; rfl
  have hlv_250020 : C.live 250020 = [] := by rw [← hC]; rfl
  have hev : ∀ st, ev C F c st = ev C F ((loopAt 17 Try.f10).getD .skip) st := fun st => by rw [hc]; rfl
  have r4 : (Tlv.cellsL x7)[4]? = some k4.cells := by rw [cellsL_map, List.getElem?_map, h4]; rfl
  have r5 : (Tlv.cellsL x7)[5]? = some k5.cells := by rw [cellsL_map, List.getElem?_map, h5]; rfl
  have r6 : (Tlv.cellsL x7)[6]? = some k6.cells := by rw [cellsL_map, List.getElem?_map, h6]; rfl
  clear h4 h5 h6
  unfold zeroM fourP threeP tlvK at *
  unfold zeroMD err
  obtain ⟨a1, a2, a3, a4, a5, a6, a7⟩ := k4
  obtain ⟨e1, e2, e3, e4, e5, e6, e7⟩ := k5
  obtain ⟨d1, d2, d3, d4, d5, d6, d7⟩ := k6
  simp only [Tlv.cells] at r4 r5 r6 g4 g5 g6
  simp only [Tlv.body, Tlv.bodyD]
  rw [iter_eq, hst, hev]
  cases b4
  case false => simp [loopAt, findLoop, Try.f10, htt, hlin, hreg, reg10, hcall, hcallP, hlv_8, hlv_100008, hlv_17, hlv_100017, hlv_200020, hlv_250020, r4, g4]
  by_cases l4 : a5.length = 12
  case neg =>
    have l4' : ¬ (a5.length : Int) = 12 := by omega
    simp [loopAt, findLoop, Try.f10, htt, hlin, hreg, reg10, hcall, hcallP, hlv_8, hlv_100008, hlv_17, hlv_100017, hlv_200020, hlv_250020, r4, g4, l4, l4']
  simp [loopAt, findLoop, Try.f10, htt, hlin, hreg, reg10, hcall, hcallP, hlv_8, hlv_100008, hlv_17, hlv_100017, hlv_200020, hlv_250020, r4, g4, l4]
  rw [iter_eq, hev]
  cases b5
  case false => simp [loopAt, findLoop, Try.f10, htt, hlin, hreg, reg10, hcall, hcallP, hlv_8, hlv_100008, hlv_17, hlv_100017, hlv_200020, hlv_250020, r5, g5]
  by_cases l5 : e5.length = 145
  case neg =>
    have l5' : ¬ (e5.length : Int) = 145 := by omega
    simp [loopAt, findLoop, Try.f10, htt, hlin, hreg, reg10, hcall, hcallP, hlv_8, hlv_100008, hlv_17, hlv_100017, hlv_200020, hlv_250020, r5, g5, l5, l5']
  simp [loopAt, findLoop, Try.f10, htt, hlin, hreg, reg10, hcall, hcallP, hlv_8, hlv_100008, hlv_17, hlv_100017, hlv_200020, hlv_250020, r5, g5, l5]
  rw [iter_eq, hev]
  cases b6
  case false => simp [loopAt, findLoop, Try.f10, htt, hlin, hreg, reg10, hcall, hcallP, hlv_8, hlv_100008, hlv_17, hlv_100017, hlv_200020, hlv_250020, r6, g6]
  by_cases l6 : d5.length = 48
  case neg =>
    have l6' : ¬ (d5.length : Int) = 48 := by omega
    simp [loopAt, findLoop, Try.f10, htt, hlin, hreg, reg10, hcall, hcallP, hlv_8, hlv_100008, hlv_17, hlv_100017, hlv_200020, hlv_250020, r6, g6, l6, l6']
  simp [loopAt, findLoop, Try.f10, htt, hlin, hreg, reg10, hcall, hcallP, hlv_8, hlv_100008, hlv_17, hlv_100017, hlv_200020, hlv_250020, r6, g6, l6]
  rw [iter_eq, hev]
  simp [loopAt, findLoop, Try.f10, htt, hlin, hreg, reg10, hcall, hcallP, hlv_8, hlv_100008, hlv_17, hlv_100017, hlv_200020, hlv_250020, r6, g6]
end Go.Proofs.Ytjmcgdhekjkjfaa

/- What manifest.Decode hands back. -/
set_option linter.unusedSimpArgs false
set_option linter.unusedVariables false
namespace Go.Proofs.Ytjmcgdhekjkjfaa
open Go Go.VM
variable {G : GE}
set_option maxRecDepth 100000
set_option maxHeartbeats 4000000

mutual
/-- Nil where nothing is, or not nil. -/
def Tlv.nilOk : Tlv → Prop
  | .mk _ _ _ bn b kn ks => (bn = true → b = []) ∧ (kn = true → ks = []) ∧ Tlv.nilOkL ks
def Tlv.nilOkL : List Tlv → Prop
  | [] => True
  | x :: l => x.nilOk ∧ Tlv.nilOkL l
end
theorem nilOk_mem {x : Tlv} : ∀ {l : List Tlv}, Tlv.nilOkL l → x ∈ l → x.nilOk
  | y :: l, hf, h => by
    simp only [Tlv.nilOkL] at hf
    rcases List.mem_cons.1 h with rfl | h
    · exact hf.1
    · exact nilOk_mem hf.2 h

theorem kidsB_nil {g : Nat → Nat → Res (Tlv × Nat)} (hg : ∀ i t x nx, g i t = .ok (x, nx) → x.nilOk) : ∀ (k fr to : Nat) (l : List Tlv), kidsB g k fr to = .ok l → Tlv.nilOkL l
  | 0, fr, to, l, h => by simp only [kidsB] at h; injection h with h; subst h; trivial
  | k + 1, fr, to, l, h => by
    simp only [kidsB] at h
    split at h
    · split at h
      · cases h
      · rename_i x nx h1
        split at h
        · cases h
        · rename_i l' h2
          injection h with h; subst h
          exact ⟨hg _ _ _ _ h1, kidsB_nil hg k _ _ _ h2⟩
    · injection h with h; subst h; trivial
theorem elemB_nil {b : List Int} : ∀ (d i stop : Nat) (x : Tlv) (nx : Nat), elemB b d i stop = .ok (x, nx) → x.nilOk
  | 0, i, stop, x, nx, h => by cases h
  | d + 1, i, stop, x, nx, h => by
    simp only [elemB] at h
    split at h
    · cases h
    split at h
    · cases h
    split at h
    · cases h
    split at h
    · split at h
      · cases h
      · rename_i l hl
        injection h with h; injection h with h1 h2; subst h1
        refine ⟨fun _ => rfl, fun h => ?_, kidsB_nil (fun i t x nx h => elemB_nil d i t x nx h) _ _ _ _ hl⟩
        cases l with
        | nil => rfl
        | cons a l => cases h
    · injection h with h; injection h with h1 h2; subst h1
      exact ⟨fun h => (by cases h), fun _ => rfl, trivial⟩
theorem parseB_nil {b : List Int} {x : Tlv} (h : parseB b = .ok x) : x.nilOk := by
  unfold parseB at h
  split at h
  · cases h
  split at h
  · cases h
  rename_i he
  split at h
  · cases h
  · injection h with h; subst h; exact elemB_nil _ _ _ _ _ he

def Tlv.kids : Tlv → List Tlv
  | .mk _ _ _ _ _ _ ks => ks
theorem weight_mem {x : Tlv} {l : List Tlv} (h : x ∈ l) : x.weight ≤ Tlv.weightL l := weightL_mem h
theorem plainOk_of {x : Tlv} {W : Nat} (h1 : x.nilOk) (h2 : x.bytesOk) (h3 : x.weight ≤ W) (hW : W ≤ 1048576) : x.plainOk := by
  obtain ⟨x1, x2, x3, x4, x5, x6, x7⟩ := x
  simp only [Tlv.weight] at h3
  exact ⟨h1.1, by omega, h2.1⟩

/-- The manifest that an element is. -/
def Tlv.man : Tlv → Option D
  | .mk x1 x2 x3 _ _ _ [k0, k1, k2, k3, k4, k5, k6] =>
    if x1 = 0 ∧ x2 = 16 ∧ x3 = true ∧ (k0.isSmall && k1.isSmall && k2.isSmall && k3.isSmall) = true ∧ (k4.isBytes 12 && k5.isBytes 145 && k6.isBytes 48) = true then
      some (.agg [.int .i64 k0.valS, .int .i64 k1.valS, .int .i64 k2.valS, .int .i64 k3.valS, k4.bodyD, k5.bodyD, k6.bodyD]) else none
  | _ => none
def decodeV : Res Tlv → List V
  | .bad c p => [.d zeroMD, .d (atD c p)]
  | .ok x => match x.man with
    | some d => [.d d, .d .nilifc]
    | none => [.d zeroMD, .d (err 7)]

theorem seven_of {l : List Tlv} (h : l.length = 7) : ∃ k0 k1 k2 k3 k4 k5 k6, l = [k0, k1, k2, k3, k4, k5, k6] := by
  match l, h with
  | [k0, k1, k2, k3, k4, k5, k6], _ => exact ⟨k0, k1, k2, k3, k4, k5, k6, rfl⟩
theorem man_none {x1 x2 : Int} {x3 x4 x6 : Bool} {x5 : List Int} {x7 : List Tlv} (h : ¬ (x1 = 0 ∧ x2 = 16 ∧ x3 = true ∧ x7.length = 7)) : Tlv.man (.mk x1 x2 x3 x4 x5 x6 x7) = none := by
  unfold Tlv.man
  split
  · rename_i h1
    injection h1 with a1 a2 a3 a4 a5 a6 a7
    subst a7
    rw [if_neg (fun h2 => h ⟨by rw [a1]; exact h2.1, by rw [a2]; exact h2.2.1, by rw [a3]; exact h2.2.2.1, rfl⟩)]
  · rfl

theorem t_Decode (F : Nat) (hF : 1048580 < F) (n : Nat) (b : List Int) (nl : Bool) (hnl : nl = true → b = []) (hb : ∀ c ∈ b, 0 ≤ c ∧ c < 256) :
    callN (envG G) F (n + 30) 10 [.d (.nums .u8 nl b)] = some ⟨decodeV (parseB b), []⟩ := by
  have hp : callN (envG G) F (n + 29) _ _ = _ := t_Parse (G := G) F hF (n + 9) b nl hnl hb
  have hl : ∀ x1 x2 x3 x4 x5 x6 x7 k, callN (envG G) F (n + 29) _ _ = _ := fun x1 x2 x3 x4 x5 x6 x7 k => t_IsList (G := G) F (n + 28) x1 x2 x3 x4 x5 x6 x7 k
  have hk : ∀ x, parseB b = .ok x → ∀ y ∈ x.kids, y.plainOk := fun x hx y hy => by
    have h := parseB_ok hb hx
    have h2 := parseB_nil hx
    obtain ⟨x1, x2, x3, x4, x5, x6, x7⟩ := x
    simp only [Tlv.kids] at hy
    have h3 := h.2.2.2.2.2
    simp only [Tlv.weight] at h3
    have h4 := weight_mem hy
    exact plainOk_of (W := 1048576) (nilOk_mem h2.2.2 hy) (bytesOk_mem h.2.2.2.2.1.2 hy) (by omega) (by omega)
  rw [callN_run (fn := Try.f10) rfl rfl rfl (by simp [Try.ntmps10])]
  generalize hC : (envG G).ctx 10 (callN (envG G) F (n+29)) (callP (envG G) F (n+29)) = C
  have htt : C.tt = (envG G).tt := by rw [← hC]; rfl
  have hlin : C.lin = [] := by rw [← hC]; rfl
  have hreg : C.reg = reg10 := by rw [← hC]; rfl
  have hcall : C.call = callN (envG G) F (n+29) := by rw [← hC]; rfl
  have hcallP : C.callP = callP (envG G) F (n+29) := by rw [← hC]; rfl
  have hlv_8 : C.live 8 = [2, 4, 6, 33, 34, 35] := by rw [← hC]; rfl
  have hlv_100008 : C.live 100008 = [2, 3, 4, 6] := by rw [← hC]; rfl
  have hlv_17 : C.live 17 = [2, 4, 6, 11, 61, 62, 63] := by rw [← hC]; rfl
  have hlv_100017 : C.live 100017 = [2, 3, 6] := by rw [← hC]; rfl
  have hlv_200020 : C.live 200020 = [] := by rw [← hC]; rfl
  have hlv_250020 : C.live 250020 = [] := by rw [← hC]; rfl
  generalize hpb : parseB b = r at *
  cases r with
  | bad c p =>
    clear hk
    simp only [parseV, zeroT, Tlv.cells, Tlv.cellsL] at hp
    simp only [decodeV]
    unfold zeroMD
    have hne : ∃ t x, atD c p = .ifc t x := by
      unfold atD; split
      · exact ⟨_, _, rfl⟩
      · exact ⟨_, _, rfl⟩
    obtain ⟨t, x, hne⟩ := hne
    rw [hne] at hp ⊢
    simp [htt, hlin, hreg, reg10, hcall, hcallP, hlv_8, hlv_100008, hlv_17, hlv_100017, hlv_200020, hlv_250020, hp]
  | ok x =>
    obtain ⟨x1, x2, x3, x4, x5, x6, x7⟩ := x
    have hk' := hk _ rfl
    simp only [Tlv.kids] at hk'
    clear hk
    simp only [parseV, Tlv.cells] at hp
    have hl' := hl x1 x2 x3 x4 x5 x6 x7 7
    by_cases h : x1 = 0 ∧ x2 = 16 ∧ x3 = true ∧ x7.length = 7
    case neg =>
      have h2 : ¬ (x1 = 0 ∧ x2 = 16 ∧ x3 = true ∧ ((7 : Int) < 0 ∨ (x7.length : Int) = 7)) := by
        rintro ⟨a, b, c, d⟩
        exact h ⟨a, b, c, by omega⟩
      rw [decide_eq_false h2] at hl'
      simp only [decodeV, man_none h]
      unfold zeroMD err
      simp [htt, hlin, hreg, reg10, hcall, hcallP, hlv_8, hlv_100008, hlv_17, hlv_100017, hlv_200020, hlv_250020, hp, hl']
    case pos =>
      obtain ⟨rfl, rfl, rfl, h7⟩ := h
      rw [decide_eq_true ⟨rfl, rfl, rfl, by omega⟩] at hl'
      obtain ⟨k0, k1, k2, k3, k4, k5, k6, hx7⟩ := seven_of h7
      obtain ⟨v0, g0, w0⟩ := t_SmallOf' (G := G) F (n + 25) (by omega) k0 (hk' k0 (by simp [hx7]))
      obtain ⟨v1, g1, w1⟩ := t_SmallOf' (G := G) F (n + 25) (by omega) k1 (hk' k1 (by simp [hx7]))
      obtain ⟨v2, g2, w2⟩ := t_SmallOf' (G := G) F (n + 25) (by omega) k2 (hk' k2 (by simp [hx7]))
      obtain ⟨v3, g3, w3⟩ := t_SmallOf' (G := G) F (n + 25) (by omega) k3 (hk' k3 (by simp [hx7]))
      obtain ⟨b4, g4, w4⟩ := t_IsPlain' (G := G) F (n + 28) k4 4
      obtain ⟨b5, g5, w5⟩ := t_IsPlain' (G := G) F (n + 28) k5 4
      obtain ⟨b6, g6, w6⟩ := t_IsPlain' (G := G) F (n + 28) k6 4
      have hL1 := fun st h => by
        have hq := loop_dec1 (G := G) hC rfl (.int .i64 0) (.int .i64 16) (.bool true) (.nums .u8 x4 x5) x6 x7 k0 k1 k2 k3 v0 v1 v2 v3 (by simp [hx7]) (by simp [hx7]) (by simp [hx7]) (by simp [hx7]) g0 g1 g2 g3 (F - 5) st h
        rw [show F - 5 + 5 = F by omega] at hq
        exact hq
      have hL2 := fun st h => by
        have hq := loop_dec2 (G := G) hC rfl (.int .i64 0) (.int .i64 16) (.bool true) (.nums .u8 x4 x5) x6 x7 k4 k5 k6 v0 v1 v2 v3 b4 b5 b6 (by simp [hx7]) (by simp [hx7]) (by simp [hx7]) g4 g5 g6 (F - 4) st h
        rw [show F - 4 + 4 = F by omega] at hq
        exact hq
      have hman : Tlv.man (.mk 0 16 true x4 x5 x6 x7) = if (k0.isSmall && k1.isSmall && k2.isSmall && k3.isSmall) = true ∧ ((b4 && decide (k4.body.length = 12)) && (b5 && decide (k5.body.length = 145)) && (b6 && decide (k6.body.length = 48))) = true then
          some (.agg [.int .i64 v0, .int .i64 v1, .int .i64 v2, .int .i64 v3, k4.bodyD, k5.bodyD, k6.bodyD]) else none := by
        rw [hx7]
        rw [w4 rfl, w5 rfl, w6 rfl]
        unfold Tlv.man
        by_cases hs : (k0.isSmall && k1.isSmall && k2.isSmall && k3.isSmall) = true
        · have hs' := hs
          simp only [Bool.and_eq_true] at hs'
          rw [w0 hs'.1.1.1, w1 hs'.1.1.2, w2 hs'.1.2, w3 hs'.2]
          simp [hs]
        · simp [hs]
      clear w0 w1 w2 w3 w4 w5 w6 hC hk' hx7
      unfold zeroM tlvK fourP at hL1
      unfold zeroM tlvK fourP threeP at hL2
      unfold zeroMD err at hL1 hL2
      simp only [decodeV]
      rw [hman]
      clear hman
      unfold zeroMD err
      generalize (k0.isSmall && k1.isSmall && k2.isSmall && k3.isSmall) = s at *
      generalize ((b4 && decide (k4.body.length = 12)) && (b5 && decide (k5.body.length = 145)) && (b6 && decide (k6.body.length = 48))) = u at *
      generalize k4.bodyD = d4 at *
      generalize k5.bodyD = d5 at *
      generalize k6.bodyD = d6 at *
      cases s with
      | false =>
        simp only [Bool.false_eq_true, if_false, false_and] at hL1 ⊢
        have hL := fun st h => Classical.choose_spec (hL1 st h)
        simp [Try.f10, htt, hlin, hreg, reg10, hcall, hcallP, hlv_8, hlv_100008, hlv_17, hlv_100017, hlv_200020, hlv_250020] at hL
        simp [htt, hlin, hreg, reg10, hcall, hcallP, hlv_8, hlv_100008, hlv_17, hlv_100017, hlv_200020, hlv_250020, hp, hl', ev_loop]
        rw [(hL _ (by simp)).1]
        simp [htt, hlin, hreg, reg10, hcall, hcallP, hlv_8, hlv_100008, hlv_17, hlv_100017, hlv_200020, hlv_250020]
        exact (hL _ (by simp)).2
      | true =>
        simp only [if_true, true_and] at hL1 ⊢
        simp [htt, hlin, hreg, reg10, hcall, hcallP, hlv_8, hlv_100008, hlv_17, hlv_100017, hlv_200020, hlv_250020, hp, hl', ev_loop]
        rw [hL1 _ (by simp)]
        cases u with
        | false =>
          simp only [Bool.false_eq_true, if_false] at hL2 ⊢
          have hL := fun st h => Classical.choose_spec (hL2 st h)
          simp [Try.f10, htt, hlin, hreg, reg10, hcall, hcallP, hlv_8, hlv_100008, hlv_17, hlv_100017, hlv_200020, hlv_250020] at hL
          simp [htt, hlin, hreg, reg10, hcall, hcallP, hlv_8, hlv_100008, hlv_17, hlv_100017, hlv_200020, hlv_250020, ev_loop]
          rw [(hL _ (by simp)).1]
          simp [htt, hlin, hreg, reg10, hcall, hcallP, hlv_8, hlv_100008, hlv_17, hlv_100017, hlv_200020, hlv_250020]
          exact (hL _ (by simp)).2
        | true =>
          simp only [if_true] at hL2 ⊢
          simp [htt, hlin, hreg, reg10, hcall, hcallP, hlv_8, hlv_100008, hlv_17, hlv_100017, hlv_200020, hlv_250020, ev_loop]
          rw [hL2 _ (by simp)]
          simp [htt, hlin, hreg, reg10, hcall, hcallP, hlv_8, hlv_100008, hlv_17, hlv_100017, hlv_200020, hlv_250020]
end Go.Proofs.Ytjmcgdhekjkjfaa
