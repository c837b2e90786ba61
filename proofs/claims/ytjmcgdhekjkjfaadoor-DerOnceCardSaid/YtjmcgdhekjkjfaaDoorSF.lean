/- What der.Parse hands back. -/
import Derived.Test.YtjmcgdhekjkjfaaDoorSE
set_option linter.unusedSimpArgs false
set_option linter.unusedVariables false
namespace Go.Proofs.YtjmcgdhekjkjfaaDoor
open Go Go.VM
variable {G : GE}
set_option maxRecDepth 100000
set_option maxHeartbeats 4000000

/-- The error of what is amiss; a place below 0: it has none. -/
def atD (c p : Int) : D := if p < 0 then err c else spotD c p
def parseV : Res Tlv → List V
  | .ok x => [.d (.agg x.cells), .d .nilifc]
  | .bad c p => [.d (.agg zeroT.cells), .d (atD c p)]

theorem elemB_place : ∀ {b : List Int} {d i stop : Nat} {c p : Int}, elemB b d i stop = .bad c p → 0 ≤ p ∧ 1 ≤ c ∧ c ≤ 9 := by
  have hlen : ∀ {b : List Int} {i stop : Nat} {c p : Int}, lenB b i stop = .bad c p → 0 ≤ p ∧ 1 ≤ c ∧ c ≤ 9 := by
    intro b i stop c p h
    unfold lenB at h
    repeat' (split at h)
    all_goals (first | (injection h with h1 h2; omega) | cases h)
  have hsp : ∀ {b : List Int} {i stop : Nat} {c p : Int}, spanB b i stop = .bad c p → 0 ≤ p ∧ 1 ≤ c ∧ c ≤ 9 := by
    intro b i stop c p h
    unfold spanB at h
    split at h
    · rename_i hl; injection h with h1 h2; subst h1; subst h2; exact hlen hl
    · split at h
      · injection h with h1 h2; omega
      · cases h
  have hk : ∀ (g : Nat → Nat → Res (Tlv × Nat)), (∀ i t c p, g i t = .bad c p → 0 ≤ p ∧ 1 ≤ c ∧ c ≤ 9) → ∀ (k fr to : Nat) (c p : Int), kidsB g k fr to = .bad c p → 0 ≤ p ∧ 1 ≤ c ∧ c ≤ 9 := by
    intro g hg k
    induction k with
    | zero => intro fr to c p h; cases h
    | succ k ih =>
      intro fr to c p h
      simp only [kidsB] at h
      split at h
      · split at h
        · rename_i h1; injection h with h2 h3; subst h2; subst h3; exact hg _ _ _ _ h1
        · split at h
          · rename_i h1; injection h with h2 h3; subst h2; subst h3; exact ih _ _ _ _ h1
          · cases h
      · cases h
  intro b d
  induction d with
  | zero => intro i stop c p h; simp only [elemB] at h; injection h with h1 h2; omega
  | succ d ih =>
    intro i stop c p h
    simp only [elemB] at h
    split at h
    · injection h with h1 h2; omega
    split at h
    · injection h with h1 h2; omega
    split at h
    · rename_i h1; injection h with h2 h3; subst h2; subst h3; exact hsp h1
    split at h
    · split at h
      · rename_i h1; injection h with h2 h3; subst h2; subst h3; exact hk _ (fun i t c p h => ih h) _ _ _ _ _ h1
      · cases h
    · cases h

theorem t_Parse (F : Nat) (hF : 1048580 < F) (n : Nat) (b : List Int) (nl : Bool) (hnl : nl = true → b = []) (hb : ∀ c ∈ b, 0 ≤ c ∧ c < 256) :
    callN (envG G) F (n + 20) 12 [.d (.nums .u8 nl b)] = some ⟨parseV (parseB b), []⟩ := by
  have ks : ∀ c p, callN (envG G) F (n + 19) _ _ = _ := fun c p => t_spot (G := G) F (n + 18) c p
  have ke : b.length ≤ 1048576 → callN (envG G) F (n + 19) _ _ = _ := fun h => t_delem (G := G) F hF b nl hnl hb h 16 0 n 0 b.length (by omega) (by omega) (by omega)
  have kp := @elemB_place b 16 0 b.length
  have ko := fun x e => elemB_ok hb 16 0 b.length x e (Nat.le_refl _)
  rw [callN_run (fn := Tryd.f12) rfl rfl rfl (by simp [Tryd.ntmps12])]
  generalize hC : (envG G).ctx 12 (callN (envG G) F (n+19)) (callP (envG G) F (n+19)) = C
  have htt : C.tt = (envG G).tt := by rw [← hC]; rfl
  have hlin : C.lin = [] := by rw [← hC]; rfl
  have hreg : C.reg = reg12 := by rw [← hC]; rfl
  have hcall : C.call = callN (envG G) F (n+19) := by rw [← hC]; rfl
  have hcallP : C.callP = callP (envG G) F (n+19) := by rw [← hC]; rfl
  unfold parseB
  by_cases c1 : 1048576 < b.length
  · have f1 : (1048576 : Int) < b.length := by omega
    simp only [if_pos c1, parseV, atD, err, zeroT, Tlv.cells, Tlv.cellsL]
    simp [htt, hlin, hreg, reg12, hcall, hcallP, f1]
  · have f1 : ¬ (1048576 : Int) < b.length := by omega
    have ke' := ke (by omega)
    clear ke
    rw [if_neg c1]
    generalize elemB b 16 0 b.length = r at *
    cases r with
    | bad c p =>
      have hp := kp rfl
      simp only [elemV, spotD, err, zeroT, Tlv.cells, Tlv.cellsL] at ke'
      simp at ke'
      simp only [parseV, atD, if_neg (by omega : ¬ p < 0), spotD, err, zeroT, Tlv.cells, Tlv.cellsL]
      simp [htt, hlin, hreg, reg12, hcall, hcallP, f1, ke']
    | ok r =>
      obtain ⟨x, e⟩ := r
      have hx := ko x e rfl
      have hh := hx.hi
      clear ko kp hx
      obtain ⟨xc, xt, xm, xbn, xb, xkn, xks⟩ := x
      simp only [elemV, Tlv.cells] at ke'
      simp at ke'
      unfold spotD err at ks
      by_cases c2 : e < b.length
      · have f2 : (e : Int) < b.length := by omega
        simp only [if_pos c2, parseV, atD, spotD, err, zeroT, Tlv.cells, Tlv.cellsL, if_neg (by omega : ¬ (e : Int) < 0)]
        simp [htt, hlin, hreg, reg12, hcall, hcallP, f1, ke', f2, ks]
      · have f2 : ¬ (e : Int) < b.length := by omega
        simp only [if_neg c2, parseV, Tlv.cells]
        simp [htt, hlin, hreg, reg12, hcall, hcallP, f1, ke', f2, ks]
end Go.Proofs.YtjmcgdhekjkjfaaDoor

/- What the law's Code hands back. -/
set_option linter.unusedSimpArgs false
set_option linter.unusedVariables false
namespace Go.Proofs.YtjmcgdhekjkjfaaDoor
open Go Go.VM
variable {G : GE}
set_option maxRecDepth 100000
set_option maxHeartbeats 4000000

theorem loop_code {m : Nat} {C : Ctx} {F : Nat} (hC : (envG G).ctx 15 (callN (envG G) F (m)) (callP (envG G) F (m)) = C) {c : Code} (hc : loopAt 4 Tryd.f15 = some c) (q : Int) : ∀ (u : Nat) (i : Int) (k : Nat) (st : St), i + u = 22 → 1 ≤ i → u < k →
    st.trim 0 [0, 3] = ⟨[(0, .d (err q)), (3, .d (.int .i64 i))], [], []⟩ →
    iter (ev C F c) 0 [0, 3] [2] k st = if i ≤ q ∧ q ≤ 21 then some (.ret, ⟨[(2, .d (.int .i64 q))], [], []⟩) else some (.exit 0, ⟨[], [], []⟩) := by
  have htt : C.tt = (envG G).tt := by rw [← hC]; rfl
  have hlin : C.lin = [] := by rw [← hC]; rfl
  have hreg : C.reg = reg15 := by rw [← hC]; rfl
  have hcall : C.call = callN (envG G) F (m) := by rw [← hC]; rfl
  have hcallP : C.callP = callP (envG G) F (m) := by rw [← hC]; rfl
  have hlv_4 : C.live 4 = [0, 3] := by rw [← hC]; rfl
  have hlv_100004 : C.live 100004 = [2] := by rw [← hC]; rfl
  have hev : ∀ st, ev C F c st = ev C F ((loopAt 4 Tryd.f15).getD .skip) st := fun st => by rw [hc]; rfl
  unfold err
  intro u
  induction u with
  | zero =>
    intro i k st hu h1 hk hst
    obtain ⟨k, rfl⟩ : ∃ j, k = j + 1 := ⟨k - 1, by omega⟩
    have hc : i = 22 := by omega
    subst hc
    rw [if_neg (by omega)]
    rw [iter_eq, hst, hev]
    simp [loopAt, findLoop, Tryd.f15, htt, hlin, hreg, reg15, hcall, hcallP, hlv_4, hlv_100004]
  | succ u ih =>
    intro i k st hu h1 hk hst
    obtain ⟨k, rfl⟩ : ∃ j, k = j + 1 := ⟨k - 1, by omega⟩
    have e0 : i ≤ 21 := by omega
    have e0' : ¬ 21 < i := by omega
    have e1 : i + 1 ≤ 9223372036854775807 := by omega
    have e2 : -9223372036854775808 ≤ i + 1 := by omega
    have ih' := fun st h => ih (i + 1) k st (by omega) (by omega) (by omega) h
    by_cases hq : q = i
    · subst hq
      rw [if_pos (by omega)]
      rw [iter_eq, hst, hev]
      simp [loopAt, findLoop, Tryd.f15, htt, hlin, hreg, reg15, hcall, hcallP, hlv_4, hlv_100004, e0, e0', e1, e2]
    · have e3 : (i + 1 ≤ q ∧ q ≤ 21) ↔ (i ≤ q ∧ q ≤ 21) := by omega
      simp only [e3] at ih'
      rw [iter_eq, hst, hev]
      simp [loopAt, findLoop, Tryd.f15, htt, hlin, hreg, reg15, hcall, hcallP, hlv_4, hlv_100004, e0, e0', e1, e2, hq]
      exact ih' _ (by simp)

theorem loop_code2 {m : Nat} {C : Ctx} {F : Nat} (hC : (envG G).ctx 15 (callN (envG G) F (m)) (callP (envG G) F (m)) = C) {c : Code} (hc : loopAt 4 Tryd.f15 = some c) (q p : Int) : ∀ (u : Nat) (i : Int) (k : Nat) (st : St), i + u = 22 → 1 ≤ i → u < k →
    st.trim 0 [0, 3] = ⟨[(0, .d (spotD q p)), (3, .d (.int .i64 i))], [], []⟩ →
    iter (ev C F c) 0 [0, 3] [2] k st = some (.exit 0, ⟨[], [], []⟩) := by
  have htt : C.tt = (envG G).tt := by rw [← hC]; rfl
  have hlin : C.lin = [] := by rw [← hC]; rfl
  have hreg : C.reg = reg15 := by rw [← hC]; rfl
  have hcall : C.call = callN (envG G) F (m) := by rw [← hC]; rfl
  have hcallP : C.callP = callP (envG G) F (m) := by rw [← hC]; rfl
  have hlv_4 : C.live 4 = [0, 3] := by rw [← hC]; rfl
  have hlv_100004 : C.live 100004 = [2] := by rw [← hC]; rfl
  have hev : ∀ st, ev C F c st = ev C F ((loopAt 4 Tryd.f15).getD .skip) st := fun st => by rw [hc]; rfl
  unfold spotD err
  intro u
  induction u with
  | zero =>
    intro i k st hu h1 hk hst
    obtain ⟨k, rfl⟩ : ∃ j, k = j + 1 := ⟨k - 1, by omega⟩
    have hc : i = 22 := by omega
    subst hc
    rw [iter_eq, hst, hev]
    simp [loopAt, findLoop, Tryd.f15, htt, hlin, hreg, reg15, hcall, hcallP, hlv_4, hlv_100004]
  | succ u ih =>
    intro i k st hu h1 hk hst
    obtain ⟨k, rfl⟩ : ∃ j, k = j + 1 := ⟨k - 1, by omega⟩
    have e0 : i ≤ 21 := by omega
    have e0' : ¬ 21 < i := by omega
    have e1 : i + 1 ≤ 9223372036854775807 := by omega
    have e2 : -9223372036854775808 ≤ i + 1 := by omega
    have ih' := fun st h => ih (i + 1) k st (by omega) (by omega) (by omega) h
    rw [iter_eq, hst, hev]
    simp [loopAt, findLoop, Tryd.f15, htt, hlin, hreg, reg15, hcall, hcallP, hlv_4, hlv_100004, e0, e0', e1, e2]
    exact ih' _ (by simp)

theorem t_Code (F n : Nat) (hF : 22 < F) (q : Int) : callN (envG G) F (n+1) 15 [.d (err q)] = some ⟨[.d (.int .i64 (if 1 ≤ q ∧ q ≤ 21 then q else -1))], []⟩ := by
  rw [callN_run (fn := Tryd.f15) rfl rfl rfl (by simp [Tryd.ntmps15])]
  generalize hC : (envG G).ctx 15 (callN (envG G) F (n)) (callP (envG G) F (n)) = C
  have htt : C.tt = (envG G).tt := by rw [← hC]; rfl
  have hlin : C.lin = [] := by rw [← hC]; rfl
  have hreg : C.reg = reg15 := by rw [← hC]; rfl
  have hcall : C.call = callN (envG G) F (n) := by rw [← hC]; rfl
  have hcallP : C.callP = callP (envG G) F (n) := by rw [← hC]; rfl
  have hlv_4 : C.live 4 = [0, 3] := by rw [← hC]; rfl
  have hlv_100004 : C.live 100004 = [2] := by rw [← hC]; rfl
  have hL := fun st h => loop_code (G := G) hC rfl q 21 1 F st (by omega) (by omega) (by omega) h
  unfold err at hL ⊢
  simp [htt, hlin, hreg, reg15, hcall, hcallP, hlv_4, hlv_100004, ev_loop]
  by_cases hq : 1 ≤ q ∧ q ≤ 21
  · rw [if_pos hq] at hL ⊢
    rw [hL _ (by simp)]
    simp [htt, hlin, hreg, reg15, hcall, hcallP, hlv_4, hlv_100004]
  · rw [if_neg hq] at hL ⊢
    rw [hL _ (by simp)]
    simp [htt, hlin, hreg, reg15, hcall, hcallP, hlv_4, hlv_100004]

theorem t_Code_nil (F n : Nat) : callN (envG G) F (n+1) 15 [.d .nilifc] = some ⟨[.d (.int .i64 0)], []⟩ := by
  rw [callN_run (fn := Tryd.f15) rfl rfl rfl (by simp [Tryd.ntmps15])]
  generalize hC : (envG G).ctx 15 (callN (envG G) F (n)) (callP (envG G) F (n)) = C
  have htt : C.tt = (envG G).tt := by rw [← hC]; rfl
  have hlin : C.lin = [] := by rw [← hC]; rfl
  have hreg : C.reg = reg15 := by rw [← hC]; rfl
  have hcall : C.call = callN (envG G) F (n) := by rw [← hC]; rfl
  have hcallP : C.callP = callP (envG G) F (n) := by rw [← hC]; rfl
  have hlv_4 : C.live 4 = [0, 3] := by rw [← hC]; rfl
  have hlv_100004 : C.live 100004 = [2] := by rw [← hC]; rfl
  simp [htt, hlin, hreg, reg15, hcall, hcallP, hlv_4, hlv_100004]

theorem t_Code_spot (F n : Nat) (hF : 22 < F) (q p : Int) : callN (envG G) F (n+1) 15 [.d (spotD q p)] = some ⟨[.d (.int .i64 (-1))], []⟩ := by
  rw [callN_run (fn := Tryd.f15) rfl rfl rfl (by simp [Tryd.ntmps15])]
  generalize hC : (envG G).ctx 15 (callN (envG G) F (n)) (callP (envG G) F (n)) = C
  have htt : C.tt = (envG G).tt := by rw [← hC]; rfl
  have hlin : C.lin = [] := by rw [← hC]; rfl
  have hreg : C.reg = reg15 := by rw [← hC]; rfl
  have hcall : C.call = callN (envG G) F (n) := by rw [← hC]; rfl
  have hcallP : C.callP = callP (envG G) F (n) := by rw [← hC]; rfl
  have hlv_4 : C.live 4 = [0, 3] := by rw [← hC]; rfl
  have hlv_100004 : C.live 100004 = [2] := by rw [← hC]; rfl
  have hL := fun st h => loop_code2 (G := G) hC rfl q p 21 1 F st (by omega) (by omega) (by omega) h
  unfold spotD err at hL ⊢
  simp [htt, hlin, hreg, reg15, hcall, hcallP, hlv_4, hlv_100004, ev_loop]
  rw [hL _ (by simp)]
  simp [htt, hlin, hreg, reg15, hcall, hcallP, hlv_4, hlv_100004]
end Go.Proofs.YtjmcgdhekjkjfaaDoor

/- What the reference's Reader.fail and Reader.length hand back. -/
set_option linter.unusedSimpArgs false
set_option linter.unusedVariables false
namespace Go.Proofs.YtjmcgdhekjkjfaaDoor
open Go Go.VM
variable {G : GE}
set_option maxRecDepth 100000
set_option maxHeartbeats 4000000

def rdr (nl : Bool) (b : List Int) (x y : Int) : Option Blk := some (.cells false [.d (.nums .u8 nl b), .d (.int .i64 x), .d (.int .i64 y)])

theorem t_rfail (F n : Nat) (nl : Bool) (b : List Int) (x y c p : Int) :
    callP (envG G) F (n+1) 97 [.ptr 0 0, .d (.int .i64 c), .d (.int .i64 p)] [rdr nl b x y] [] = some ⟨[], [], [rdr nl b c p], []⟩ := by
  unfold rdr
  rw [callP_run (fn := Tryd.f97) rfl rfl rfl (by simp [Tryd.ntmps97])]
  generalize hC : (envG G).ctx 97 (callN (envG G) F (n)) (callP (envG G) F (n)) = C
  have htt : C.tt = (envG G).tt := by rw [← hC]; rfl
  have hlin : C.lin = [] := by rw [← hC]; rfl
  have hreg : C.reg = reg97 := by rw [← hC]; rfl
  have hcall : C.call = callN (envG G) F (n) := by rw [← hC]; rfl
  have hcallP : C.callP = callP (envG G) F (n) := by rw [← hC]; rfl
  simp [htt, hlin, hreg, reg97, hcall, hcallP]

theorem loop_rlen {m : Nat} {C : Ctx} {F : Nat} (hC : (envG G).ctx 98 (callN (envG G) F (m)) (callP (envG G) F (m)) = C) {c : Code} (hc : loopAt 16 Tryd.f98 = some c) (b : List Int) (i q : Nat) (hb : ∀ c ∈ b, 0 ≤ c ∧ c < 256) (hq : q ≤ 3) (hi : i ≤ 1048577) (hin : i + 1 + q ≤ b.length) (nl : Bool) (x y : Int) :
    ∀ (u j k : Nat) (st : St), j + u = q → u < k →
      st.trim 1 [0, 1, 9, 10, 11] = ⟨[(0, .ptr 0 0), (1, .d (.int .i64 i)), (9, .d (.int .i64 q)), (10, .d (.int .i64 (beN b (i + 1) j))), (11, .d (.int .i64 ((j : Int) + 1)))], [rdr nl b x y], []⟩ →
      iter (ev C F c) 1 [0, 1, 9, 10, 11] [0, 1, 6, 7, 9, 10] k st = some (.exit 0, ⟨[(0, .ptr 0 0), (1, .d (.int .i64 i)), (9, .d (.int .i64 q)), (10, .d (.int .i64 (beN b (i + 1) q)))], [rdr nl b x y], []⟩) := by
  have htt : C.tt = (envG G).tt := by rw [← hC]; rfl
  have hlin : C.lin = [] := by rw [← hC]; rfl
  have hreg : C.reg = reg98 := by rw [← hC]; rfl
  have hcall : C.call = callN (envG G) F (m) := by rw [← hC]; rfl
  have hcallP : C.callP = callP (envG G) F (m) := by rw [← hC]; rfl
  have hlv_16 : C.live 16 = [0, 1, 9, 10, 11] := by rw [← hC]; rfl
  have hlv_100016 : C.live 100016 = [0, 1, 6, 7, 9, 10] := by rw [← hC]; rfl
  have hev : ∀ st, ev C F c st = ev C F ((loopAt 16 Tryd.f98).getD .skip) st := fun st => by rw [hc]; rfl
  unfold rdr
  intro u
  induction u with
  | zero =>
    intro j k st hj hk hst
    obtain ⟨k, rfl⟩ : ∃ j, k = j + 1 := ⟨k - 1, by omega⟩
    have e0 : ¬ ((j : Int) + 1 ≤ (q : Int)) := by omega
    have e0' : ((q : Int) < (j : Int) + 1) := by omega
    have hjq : j = q := by omega
    subst hjq
    rw [iter_eq, hst, hev]
    simp [loopAt, findLoop, Tryd.f98, htt, hlin, hreg, reg98, hcall, hcallP, hlv_16, hlv_100016, e0, e0']
  | succ u ih =>
    intro j k st hj hk hst
    obtain ⟨k, rfl⟩ : ∃ j, k = j + 1 := ⟨k - 1, by omega⟩
    have e0 : ((j : Int) + 1 ≤ (q : Int)) := by omega
    have e0' : ¬ ((q : Int) < (j : Int) + 1) := by omega
    have ra := byteAt_get (b := b) (i := i + 1 + j) (by omega)
    have h1 := beN_ok hb (i + 1) j
    have h2 := byteAt_ok hb (i + 1 + j)
    have hp : (256 : Int) ^ j ≤ 65536 := by
      have : j = 0 ∨ j = 1 ∨ j = 2 := by omega
      rcases this with rfl | rfl | rfl <;> decide
    have ih' := fun st h => ih (j + 1) k st (by omega) (by omega) h
    simp only [beN] at ih'
    have e1 : (j : Int) + 1 + 1 ≤ 9223372036854775807 := by omega
    have e2 : (-9223372036854775808 : Int) ≤ (j : Int) + 1 + 1 := by omega
    have e3 : 256 * beN b (i + 1) j ≤ 9223372036854775807 := by omega
    have e4 : (-9223372036854775808 : Int) ≤ 256 * beN b (i + 1) j := by omega
    have e5 : byteAt b (i + 1 + j) ≤ 9223372036854775807 := by omega
    have e6 : (-9223372036854775808 : Int) ≤ byteAt b (i + 1 + j) := by omega
    have e7 : 256 * beN b (i + 1) j + byteAt b (i + 1 + j) ≤ 9223372036854775807 := by omega
    have e8 : (-9223372036854775808 : Int) ≤ 256 * beN b (i + 1) j + byteAt b (i + 1 + j) := by omega
    have e9 : (i : Int) + ((j : Int) + 1) ≤ 9223372036854775807 := by omega
    have e10 : (-9223372036854775808 : Int) ≤ (i : Int) + ((j : Int) + 1) := by omega
    have e11 : (0 : Int) ≤ (i : Int) + ((j : Int) + 1) := by omega
    have n1 : ((i : Int) + ((j : Int) + 1)).toNat = i + 1 + j := by omega
    rw [iter_eq, hst, hev]
    generalize beN b (i + 1) j = v at *
    generalize byteAt b (i + 1 + j) = x at *
    simp [loopAt, findLoop, Tryd.f98, htt, hlin, hreg, reg98, hcall, hcallP, hlv_16, hlv_100016, e0, e0', e1, e2, e3, e4, e5, e6, e7, e8, e9, e10, e11, n1, ra]
    simp at ih'
    exact ih' _ (by simp)
end Go.Proofs.YtjmcgdhekjkjfaaDoor

/- What the reference's Reader.length hands back. -/
set_option linter.unusedSimpArgs false
set_option linter.unusedVariables false
namespace Go.Proofs.YtjmcgdhekjkjfaaDoor
open Go Go.VM
variable {G : GE}
set_option maxRecDepth 100000
set_option maxHeartbeats 4000000

def rlenV (nl : Bool) (b : List Int) (y : Int) : Res (Nat × Nat) → Hand
  | .ok (v, f) => ⟨[.d (.int .i64 v), .d (.int .i64 f)], [], [rdr nl b 0 y], []⟩
  | .bad c p => ⟨[.d (.int .i64 0), .d (.int .i64 0)], [], [rdr nl b c p], []⟩

theorem t_rlength (F n : Nat) (hF : 4 < F) (b : List Int) (nl : Bool) (hb : ∀ c ∈ b, 0 ≤ c ∧ c < 256) (hlen : b.length ≤ 1048576) (i stop : Nat) (hs : stop ≤ b.length) (hi : i ≤ 1048577) (y : Int) :
    callP (envG G) F (n+2) 98 [.ptr 0 0, .d (.int .i64 i), .d (.int .i64 stop)] [rdr nl b 0 y] [] = some (rlenV nl b y (lenB b i stop)) := by
  have ks := fun c p => t_rfail (G := G) F n nl b 0 y c p
  have g0 := byteAt_ok hb i
  have g1 := byteAt_ok hb (i + 1)
  rw [callP_run (fn := Tryd.f98) rfl rfl rfl (by simp [Tryd.ntmps98])]
  generalize hC : (envG G).ctx 98 (callN (envG G) F (n+1)) (callP (envG G) F (n+1)) = C
  have htt : C.tt = (envG G).tt := by rw [← hC]; rfl
  have hlin : C.lin = [] := by rw [← hC]; rfl
  have hreg : C.reg = reg98 := by rw [← hC]; rfl
  have hcall : C.call = callN (envG G) F (n+1) := by rw [← hC]; rfl
  have hcallP : C.callP = callP (envG G) F (n+1) := by rw [← hC]; rfl
  have hlv_16 : C.live 16 = [0, 1, 9, 10, 11] := by rw [← hC]; rfl
  have hlv_100016 : C.live 100016 = [0, 1, 6, 7, 9, 10] := by rw [← hC]; rfl
  have hL := fun q hq hin u j k st => loop_rlen (G := G) hC rfl b i q hb hq hi hin nl 0 y u j k st
  clear hC
  unfold rdr at ks hL ⊢
  have e1 : (i : Int) + 1 ≤ 9223372036854775807 := by omega
  have e2 : (-9223372036854775808 : Int) ≤ (i : Int) + 1 := by omega
  by_cases c1 : stop ≤ i
  · have hsp : lenB b i stop = .bad 6 i := by simp [lenB, c1]
    have f1 : (stop : Int) ≤ (i : Int) := by omega
    rw [hsp]
    simp [htt, hlin, hreg, reg98, hcall, hcallP, hlv_16, hlv_100016, ks, f1, rlenV, rdr]
  · have f1 : ¬ (stop : Int) ≤ (i : Int) := by omega
    have r0 := byteAt_get (b := b) (i := i) (by omega)
    have e7 : byteAt b i ≤ 9223372036854775807 := by omega
    have e8 : (-9223372036854775808 : Int) ≤ byteAt b i := by omega
    by_cases c2 : byteAt b i < 128
    · have hsp : lenB b i stop = .ok ((byteAt b i).toNat, i + 1) := by simp [lenB, c1, c2]
      have e9 : ((byteAt b i).toNat : Int) = byteAt b i := by omega
      rw [hsp]
      simp only [rlenV, rdr, Int.natCast_add, e9]
      simp [htt, hlin, hreg, reg98, hcall, hcallP, hlv_16, hlv_100016, ks, f1, r0, e1, e2, e7, e8, c2]
    · by_cases c3 : byteAt b i = 128 ∨ 131 < byteAt b i
      · have hsp : lenB b i stop = .bad 7 i := by simp [lenB, c1, c2, c3]
        rw [hsp]
        generalize byteAt b i = v at *
        by_cases f2 : v = 128
        · subst f2
          simp [htt, hlin, hreg, reg98, hcall, hcallP, hlv_16, hlv_100016, ks, f1, r0, e1, e2, e7, e8, rlenV, rdr]
        · have f3 : 131 < v := by omega
          simp [htt, hlin, hreg, reg98, hcall, hcallP, hlv_16, hlv_100016, ks, f1, r0, e1, e2, e7, e8, c2, f2, f3, rlenV, rdr]
      · obtain ⟨q, hq0, hq3, hqv⟩ : ∃ q : Nat, 1 ≤ q ∧ q ≤ 3 ∧ byteAt b i = 128 + q := ⟨(byteAt b i - 128).toNat, by omega, by omega, by omega⟩
        have hq : (byteAt b i - 128).toNat = q := by omega
        have f0 : ¬ (128 + (q : Int) < 128) := by omega
        have f2 : ¬ (128 + (q : Int) = 128) := by omega
        have f3 : ¬ (131 < 128 + (q : Int)) := by omega
        have f6 : 128 + (q : Int) - 128 = q := by omega
        have e5 : 128 + (q : Int) ≤ 9223372036854775807 := by omega
        have e6 : (-9223372036854775808 : Int) ≤ 128 + (q : Int) := by omega
        have e9 : (q : Int) ≤ 9223372036854775807 := by omega
        have e10 : (-9223372036854775808 : Int) ≤ (q : Int) := by omega
        have e11 : (i : Int) + 1 + q ≤ 9223372036854775807 := by omega
        have e12 : (-9223372036854775808 : Int) ≤ (i : Int) + 1 + q := by omega
        by_cases c4 : stop < i + 1 + q
        · have hsp : lenB b i stop = .bad 6 i := by simp [lenB, c1, c2, c3, hq, c4]
          have f5 : (stop : Int) < (i : Int) + 1 + q := by omega
          rw [hsp]
          rw [hqv] at r0
          simp [htt, hlin, hreg, reg98, hcall, hcallP, hlv_16, hlv_100016, ks, f1, r0, e1, e2, e5, e6, e9, e10, e11, e12, f0, f2, f3, f5, f6, rlenV, rdr]
        · have f5 : ¬ (stop : Int) < (i : Int) + 1 + q := by omega
          have r1 := byteAt_get (b := b) (i := i + 1) (by omega)
          have hv := beN_ok hb (i + 1) q
          have f9 : (0 : Int) ≤ (i : Int) + 1 := by omega
          have n1 : ((i : Int) + 1).toNat = i + 1 := by omega
          have hL1 := fun st h => hL q hq3 (by omega) q 0 F st (by omega) (by omega) h
          have spc : lenB b i stop = if byteAt b (i + 1) = 0 ∨ beN b (i + 1) q < 128 then .bad 7 i else .ok ((beN b (i + 1) q).toNat, i + 1 + q) := by
            simp only [lenB, if_neg c1, if_neg c2, if_neg c3, hq, if_neg c4]
          rw [spc]
          rw [hqv] at r0
          clear spc hqv hq c2 c3 e7 e8 g0
          simp only [beN] at hL1
          simp at hL1
          generalize beN b (i + 1) q = v at *
          generalize byteAt b (i + 1) = x at *
          simp [htt, hlin, hreg, reg98, hcall, hcallP, hlv_16, hlv_100016, ks, f1, r0, e1, e2, e5, e6, e9, e10, e11, e12, f0, f2, f3, f5, f6, f9, n1, ev_loop]
          rw [hL1 _ (by simp)]
          by_cases c5 : x = 0
          · simp [htt, hlin, hreg, reg98, hcall, hcallP, hlv_16, hlv_100016, ks, r1, n1, f9, e1, e2, c5, rlenV, rdr]
          · by_cases c6 : v < 128
            · simp [htt, hlin, hreg, reg98, hcall, hcallP, hlv_16, hlv_100016, ks, r1, n1, f9, e1, e2, c5, c6, rlenV, rdr]
            · have e19 : (v.toNat : Int) = v := by omega
              simp [htt, hlin, hreg, reg98, hcall, hcallP, hlv_16, hlv_100016, ks, r1, n1, f9, e1, e2, c5, c6, e11, e12, e19, rlenV, rdr]
end Go.Proofs.YtjmcgdhekjkjfaaDoor

/- The loop of the reference's Reader.element. -/
set_option linter.unusedSimpArgs false
set_option linter.unusedVariables false
namespace Go.Proofs.YtjmcgdhekjkjfaaDoor
open Go Go.VM
variable {G : GE}
set_option maxRecDepth 100000
set_option maxHeartbeats 4000000

theorem loop_relem {m : Nat} {C : Ctx} {F : Nat} (hC : (envG G).ctx 58 (callN (envG G) F (m)) (callP (envG G) F (m)) = C) {c : Code} (hc : loopAt 25 Tryd.f58 = some c) (b : List Int) (nl : Bool) (d v fr0 to : Nat) (y : Int) (hd : d ≤ 15) (hto : to ≤ 1048576) (hfv : fr0 + v = to) (g : Nat → Nat → Res (Tlv × Nat))
    (hg : ∀ fr, fr ≤ to → match g fr to with
      | .ok (x, nx) => callP (envG G) F m 58 [.ptr 0 0, .d (.int .i64 fr), .d (.int .i64 to), .d (.int .i64 ((d : Int) + 1))] [rdr nl b 0 y] [] = some ⟨[.d (.agg x.cells), .d (.int .i64 nx)], [], [rdr nl b 0 y], []⟩
      | .bad c p => ∃ x : Tlv, callP (envG G) F m 58 [.ptr 0 0, .d (.int .i64 fr), .d (.int .i64 to), .d (.int .i64 ((d : Int) + 1))] [rdr nl b 0 y] [] = some ⟨[.d (.agg x.cells), .d (.int .i64 0)], [], [rdr nl b c p], []⟩)
    (hgo : ∀ fr x nx, g fr to = .ok (x, nx) → fr < nx ∧ nx ≤ to) (hgb : ∀ fr c p, g fr to = .bad c p → 1 ≤ c) (xc xt : Int) (xm : Bool) :
    ∀ (u fr k : Nat) (acc : List Tlv) (st : St), to - fr ≤ u → u < k → fr ≤ to → acc.length + to ≤ 2097152 + fr →
      st.trim 3 [0, 3, 8, 10, 12, 13, 14] = ⟨[(0, .ptr 0 0), (3, .d (.int .i64 d)), (8, .ptr 1 0), (10, .ptr 2 0), (12, .d (.int .i64 v)), (13, .d (.int .i64 fr0)), (14, .d (.int .i64 fr))],
        [rdr nl b 0 y, some (.cells false [.d (.int .i64 0), .d (.int .i64 0), .d (.bool false), .d (.nums .u8 true []), .d (.sl 5 true [])]),
         some (.cells false [.d (.int .i64 xc), .d (.int .i64 xt), .d (.bool xm), .d (.nums .u8 true []), .d (.sl 5 acc.isEmpty (Tlv.cellsL acc))])], [.b 2 4, .b 2 3, .b 1 4, .b 1 3]⟩ →
      match kidsB g u fr to with
      | .ok l => iter (ev C F c) 3 [0, 3, 8, 10, 12, 13, 14] [8, 9, 10, 14] k st = some (.exit 0, ⟨[(8, .ptr 1 0), (10, .ptr 2 0), (14, .d (.int .i64 to))],
          [rdr nl b 0 y, some (.cells false [.d (.int .i64 0), .d (.int .i64 0), .d (.bool false), .d (.nums .u8 true []), .d (.sl 5 true [])]),
           some (.cells false [.d (.int .i64 xc), .d (.int .i64 xt), .d (.bool xm), .d (.nums .u8 true []), .d (.sl 5 (acc ++ l).isEmpty (Tlv.cellsL (acc ++ l)))])], [.b 2 4, .b 2 3, .b 1 4, .b 1 3]⟩)
      | .bad c1 p => ∃ (x : Tlv) (st' : St), iter (ev C F c) 3 [0, 3, 8, 10, 12, 13, 14] [8, 9, 10, 14] k st = some (.ret, st') ∧ finishP C 1 Tryd.f58.results.toList (some (.ret, st')) = some ⟨[.d (.agg x.cells), .d (.int .i64 0)], [], [rdr nl b c1 p], []⟩ := by
  have htt : C.tt = (envG G).tt := by rw [← hC]; rfl
  have hlin : C.lin = [115, 52, 16, 13, 128, 99, 14, 130, 98, 9, 83, 123] := by rw [← hC]; rfl
  have hreg : C.reg = reg58 := by rw [← hC]; rfl
  have hcall : C.call = callN (envG G) F (m) := by rw [← hC]; rfl
  have hcallP : C.callP = callP (envG G) F (m) := by rw [← hC]; rfl
  have hlv_25 : C.live 25 = [0, 3, 8, 10, 12, 13, 14] := by rw [← hC]; rfl
  have hlv_100025 : C.live 100025 = [8, 9, 10, 14] := by rw [← hC]; rfl
  have hev : ∀ st, ev C F c st = ev C F ((loopAt 25 Tryd.f58).getD .skip) st := fun st => by rw [hc]; rfl
  unfold rdr at hg ⊢
  intro u
  induction u with
  | zero =>
    intro fr k acc st hu hk hf ha hst
    obtain ⟨k, rfl⟩ : ∃ j, k = j + 1 := ⟨k - 1, by omega⟩
    have e0 : ¬ ((fr : Int) < (fr0 : Int) + v) := by omega
    have e3 : (fr0 : Int) + v ≤ 9223372036854775807 := by omega
    have e4 : (-9223372036854775808 : Int) ≤ (fr0 : Int) + v := by omega
    have hft : fr = to := by omega
    subst hft
    simp only [kidsB]
    rw [iter_eq, hst, hev]
    simp [loopAt, findLoop, Tryd.f58, htt, hlin, hreg, reg58, hcall, hcallP, hlv_25, hlv_100025, e0, e3, e4]
  | succ u ih =>
    intro fr k acc st hu hk hf ha hst
    obtain ⟨k, rfl⟩ : ∃ j, k = j + 1 := ⟨k - 1, by omega⟩
    have e3 : (fr0 : Int) + v ≤ 9223372036854775807 := by omega
    have e4 : (-9223372036854775808 : Int) ≤ (fr0 : Int) + v := by omega
    simp only [kidsB]
    by_cases h0 : fr < to
    case neg =>
      have e0 : ¬ ((fr : Int) < (fr0 : Int) + v) := by omega
      have hft : fr = to := by omega
      subst hft
      rw [if_neg h0]
      rw [iter_eq, hst, hev]
      simp [loopAt, findLoop, Tryd.f58, htt, hlin, hreg, reg58, hcall, hcallP, hlv_25, hlv_100025, e0, e3, e4]
    case pos =>
      have e0 : ((fr : Int) < (to : Int)) := by omega
      have e3 : (to : Int) ≤ 9223372036854775807 := by omega
      have e4 : (-9223372036854775808 : Int) ≤ (to : Int) := by omega
      have e1 : (d : Int) + 1 ≤ 9223372036854775807 := by omega
      have e2 : (-9223372036854775808 : Int) ≤ (d : Int) + 1 := by omega
      have e5 : (fr0 : Int) + v = to := by omega
      rw [if_pos h0]
      have hc1 := hg fr hf
      cases hgr : g fr to with
      | bad c1 p =>
        rw [hgr] at hc1
        obtain ⟨x, hc1⟩ := hc1
        have hc0 := hgb _ _ _ hgr
        have hc2 : ¬ c1 = 0 := by omega
        refine ⟨.mk xc xt xm true [] acc.isEmpty acc, ?_⟩
        obtain ⟨x1, x2, x3, xbn, xb, xkn, xks⟩ := x
        simp only [Tlv.cells] at hc1 ⊢
        rw [iter_eq, hst, hev]
        cases xkn <;> cases xbn <;>
        simp [loopAt, findLoop, Tryd.f58, htt, hlin, hreg, reg58, hcall, hcallP, hlv_25, hlv_100025, e0, e1, e2, e3, e4, e5, hc1, hc2]
      | ok r =>
        obtain ⟨x, nx⟩ := r
        rw [hgr] at hc1
        simp only at hc1
        obtain ⟨hlo, hhi⟩ := hgo fr x nx hgr
        have ih' := fun st h => ih nx k (acc ++ [x]) st (by omega) (by omega) hhi (by simp; omega) h
        have hsn := cellsL_snoc acc x
        obtain ⟨x1, x2, x3, xbn, xb, xkn, xks⟩ := x
        simp only [Tlv.cells] at hc1 hsn
        have hal : (acc.length + 1) * 72 ≤ 140737488355328 := by omega
        have hal2 : acc.length ≤ 140737488355327 := by omega
        have hl := cellsL_len acc
        cases hk2 : kidsB g u nx to with
        | ok l =>
          rw [hk2] at ih'
          simp only [hgr, hk2]
          rw [iter_eq, hst, hev]
          cases xkn <;> cases xbn <;>
          (simp [loopAt, findLoop, Tryd.f58, htt, hlin, hreg, reg58, hcall, hcallP, hlv_25, hlv_100025, e0, e1, e2, e3, e4, e5, hc1, hl, hsn, hal, hal2]
           simp at ih'
           exact ih' _ (by simp))
        | bad c1 p =>
          rw [hk2] at ih'
          simp only [hgr, hk2]
          rw [iter_eq, hst, hev]
          cases xkn <;> cases xbn <;>
          (simp [loopAt, findLoop, Tryd.f58, htt, hlin, hreg, reg58, hcall, hcallP, hlv_25, hlv_100025, e0, e1, e2, e3, e4, e5, hc1, hl, hsn, hal, hal2]
           simp [Tryd.f58, htt, hlin, hreg, reg58, hcall, hcallP, hlv_25, hlv_100025] at ih'
           exact ih' _ (by simp))
end Go.Proofs.YtjmcgdhekjkjfaaDoor

/- What the reference's Reader.element hands back. -/
set_option linter.unusedSimpArgs false
set_option linter.unusedVariables false
namespace Go.Proofs.YtjmcgdhekjkjfaaDoor
open Go Go.VM
variable {G : GE}
set_option maxRecDepth 100000
set_option maxHeartbeats 4000000

theorem t_relem (F : Nat) (hF : 1048580 < F) (b : List Int) (nl : Bool) (hnl : nl = true → b = []) (hb : ∀ c ∈ b, 0 ≤ c ∧ c < 256) (hlen : b.length ≤ 1048576) (y : Int) :
    ∀ (d e n i stop : Nat), d + e = 16 → stop ≤ b.length → i ≤ stop →
    match elemB b d i stop with
    | .ok (x, nx) => callP (envG G) F (n + d + 3) 58 [.ptr 0 0, .d (.int .i64 i), .d (.int .i64 stop), .d (.int .i64 e)] [rdr nl b 0 y] [] = some ⟨[.d (.agg x.cells), .d (.int .i64 nx)], [], [rdr nl b 0 y], []⟩
    | .bad c p => ∃ x : Tlv, callP (envG G) F (n + d + 3) 58 [.ptr 0 0, .d (.int .i64 i), .d (.int .i64 stop), .d (.int .i64 e)] [rdr nl b 0 y] [] = some ⟨[.d (.agg x.cells), .d (.int .i64 0)], [], [rdr nl b c p], []⟩ := by
  intro d
  induction d with
  | zero =>
    intro e n i stop he hs hi
    have ks : ∀ c p, callP (envG G) F (n + 2) _ _ _ _ = _ := fun c p => t_rfail (G := G) F (n + 1) nl b 0 y c p
    simp only [elemB]
    rw [show n + 0 + 3 = n + 2 + 1 by omega]
    rw [callP_run (fn := Tryd.f58) rfl rfl rfl (by simp [Tryd.ntmps58])]
    generalize hC : (envG G).ctx 58 (callN (envG G) F (n+2)) (callP (envG G) F (n+2)) = C
    have htt : C.tt = (envG G).tt := by rw [← hC]; rfl
    have hlin : C.lin = [115, 52, 16, 13, 128, 99, 14, 130, 98, 9, 83, 123] := by rw [← hC]; rfl
    have hreg : C.reg = reg58 := by rw [← hC]; rfl
    have hcall : C.call = callN (envG G) F (n+2) := by rw [← hC]; rfl
    have hcallP : C.callP = callP (envG G) F (n+2) := by rw [← hC]; rfl
    have hlv_25 : C.live 25 = [0, 3, 8, 10, 12, 13, 14] := by rw [← hC]; rfl
    have hlv_100025 : C.live 100025 = [8, 9, 10, 14] := by rw [← hC]; rfl
    unfold rdr at ks ⊢
    have h1 : (16 : Int) ≤ (e : Int) := by omega
    refine ⟨zeroT, ?_⟩
    simp only [zeroT, Tlv.cells, Tlv.cellsL]
    simp [htt, hlin, hreg, reg58, hcall, hcallP, hlv_25, hlv_100025, ks, h1]
  | succ d ih =>
    intro e n i stop he hs hi
    have ks : ∀ c p, callP (envG G) F (n + d + 3) _ _ _ _ = _ := fun c p => t_rfail (G := G) F (n + d + 2) nl b 0 y c p
    have kl : callP (envG G) F (n + d + 3) _ _ _ _ = _ := t_rlength (G := G) F (n + d + 1) (by omega) b nl hb hlen (i + 1) stop hs (by omega) y
    rw [show ((i + 1 : Nat) : Int) = (i : Int) + 1 by omega] at kl
    have g0 := byteAt_ok hb i
    rw [show n + (d + 1) + 3 = n + d + 3 + 1 by omega]
    rw [callP_run (fn := Tryd.f58) rfl rfl rfl (by simp [Tryd.ntmps58])]
    generalize hC : (envG G).ctx 58 (callN (envG G) F (n+d+3)) (callP (envG G) F (n+d+3)) = C
    have htt : C.tt = (envG G).tt := by rw [← hC]; rfl
    have hlin : C.lin = [115, 52, 16, 13, 128, 99, 14, 130, 98, 9, 83, 123] := by rw [← hC]; rfl
    have hreg : C.reg = reg58 := by rw [← hC]; rfl
    have hcall : C.call = callN (envG G) F (n+d+3) := by rw [← hC]; rfl
    have hcallP : C.callP = callP (envG G) F (n+d+3) := by rw [← hC]; rfl
    have hlv_25 : C.live 25 = [0, 3, 8, 10, 12, 13, 14] := by rw [← hC]; rfl
    have hlv_100025 : C.live 100025 = [8, 9, 10, 14] := by rw [← hC]; rfl
    have h1 : ¬ (16 : Int) ≤ (e : Int) := by omega
    have e1 : (i : Int) + 1 ≤ 9223372036854775807 := by omega
    have e2 : (-9223372036854775808 : Int) ≤ (i : Int) + 1 := by omega
    simp only [elemB]
    by_cases c1 : stop ≤ i
    · have f1 : (stop : Int) ≤ (i : Int) := by omega
      rw [if_pos c1]
      refine ⟨zeroT, ?_⟩
      unfold rdr at ks ⊢
      simp only [zeroT, Tlv.cells, Tlv.cellsL]
      simp [htt, hlin, hreg, reg58, hcall, hcallP, hlv_25, hlv_100025, ks, h1, f1]
    · have f1 : ¬ (stop : Int) ≤ (i : Int) := by omega
      have r0 := byteAt_get (b := b) (i := i) (by omega)
      have hnf : nl = false := by
        cases nl with
        | false => rfl
        | true => rw [hnl rfl] at hs; simp at hs; omega
      rw [if_neg c1]
      have e11 : byteAt b i ≤ 9223372036854775807 := by omega
      have e12 : (-9223372036854775808 : Int) ≤ byteAt b i := by omega
      have t1 : (byteAt b i).tmod 32 = byteAt b i % 32 := Int.tmod_eq_emod_of_nonneg g0.1
      have t2 : (byteAt b i).tdiv 64 = byteAt b i / 64 := Int.tdiv_eq_ediv_of_nonneg g0.1
      have t3 : (byteAt b i).tdiv 32 = byteAt b i / 32 := Int.tdiv_eq_ediv_of_nonneg g0.1
      have t4 : (byteAt b i / 32).tmod 2 = byteAt b i / 32 % 2 := Int.tmod_eq_emod_of_nonneg (by omega)
      have e5 : byteAt b i / 64 ≤ 9223372036854775807 := by omega
      have e6 : (-9223372036854775808 : Int) ≤ byteAt b i / 64 := by omega
      have e7 : byteAt b i % 32 ≤ 9223372036854775807 := by omega
      have e8 : (-9223372036854775808 : Int) ≤ byteAt b i % 32 := by omega
      have e9 : byteAt b i / 32 ≤ 9223372036854775807 := by omega
      have e10 : (-9223372036854775808 : Int) ≤ byteAt b i / 32 := by omega
      have e13 : byteAt b i / 32 % 2 ≤ 9223372036854775807 := by omega
      have e14 : (-9223372036854775808 : Int) ≤ byteAt b i / 32 % 2 := by omega
      by_cases c2 : byteAt b i % 32 = 31
      · rw [if_pos c2]
        refine ⟨zeroT, ?_⟩
        unfold rdr at ks ⊢
        simp only [zeroT, Tlv.cells, Tlv.cellsL]
        simp [htt, hlin, hreg, reg58, hcall, hcallP, hlv_25, hlv_100025, ks, h1, f1, r0, e7, e8, e11, e12, t1, c2]
      · rw [if_neg c2]
        simp only [spanB]
        generalize hsp : lenB b (i + 1) stop = sp at *
        cases sp with
        | bad c p =>
          have hcp : ¬ c = 0 := by
            have := @elemB_place b (d + 1) i stop c p (by simp only [elemB, if_neg c1, if_neg c2, spanB, hsp])
            omega
          simp only [rlenV] at kl
          simp only
          refine ⟨zeroT, ?_⟩
          unfold rdr at ks kl ⊢
          simp only [zeroT, Tlv.cells, Tlv.cellsL]
          simp [htt, hlin, hreg, reg58, hcall, hcallP, hlv_25, hlv_100025, ks, h1, f1, r0, e1, e2, e7, e8, e11, e12, t1, c2, kl, hcp]
        | ok ft =>
          obtain ⟨v, fr⟩ := ft
          have hp := lenB_ok hb hs hsp
          simp only [rlenV] at kl
          simp only
          have e15 : (fr : Int) + v ≤ 9223372036854775807 := by omega
          have e16 : (-9223372036854775808 : Int) ≤ (fr : Int) + v := by omega
          by_cases c4 : stop < fr + v
          · have f4 : (stop : Int) < (fr : Int) + v := by omega
            rw [if_pos c4]
            simp only
            refine ⟨zeroT, ?_⟩
            unfold rdr at ks kl ⊢
            simp only [zeroT, Tlv.cells, Tlv.cellsL, Int.natCast_add, Int.cast_ofNat_Int]
            simp [htt, hlin, hreg, reg58, hcall, hcallP, hlv_25, hlv_100025, ks, h1, f1, f4, r0, e1, e2, e7, e8, e11, e12, e15, e16, t1, c2, kl]
          · have f4 : ¬ (stop : Int) < (fr : Int) + v := by omega
            rw [if_neg c4]
            simp only
            by_cases c3 : byteAt b i / 32 % 2 = 1
            case neg =>
              rw [if_neg c3]
              have f2 : (fr : Int) ≤ (fr : Int) + v := by omega
              have f3 : (fr : Int) + v ≤ b.length := by omega
              have n1 : ((fr : Int) + v).toNat = fr + v := by omega
              have hll : ((b.take (fr + v)).drop fr).length ≤ 140737488355327 := by simp; omega
              have hdt : (b.take (fr + v)).drop fr = (b.drop fr).take (fr + v - fr) := by rw [List.drop_take]
              rw [← hdt]
              generalize hus : (b.take (fr + v)).drop fr = us at *
              have hll2 : us.length ≤ 140737488355328 := by omega
              subst hnf
              unfold rdr at ks kl ⊢
              simp only [Tlv.cells, Tlv.cellsL, Int.natCast_add]
              simp [htt, hlin, hreg, reg58, hcall, hcallP, hlv_25, hlv_100025, ks, h1, f1, f2, f3, f4, n1, r0, e1, e2, e5, e6, e7, e8, e9, e10, e11, e12, e13, e14, e15, e16, t1, t2, t3, t4, c2, c3, kl, hus, hll, hll2]
            case pos =>
              rw [if_pos c3]
              have hL := fun st h => loop_relem (G := G) hC rfl b nl e v fr (fr + v) y (by omega) (by omega) rfl (elemB b d) (fun fr2 hfr => by
                  have := ih (e + 1) n fr2 (fr + v) (by omega) (by omega) hfr
                  rw [show ((e + 1 : Nat) : Int) = (e : Int) + 1 by omega] at this
                  exact this)
                (fun fr2 x nx h => by have := elemB_ok hb d fr2 (fr + v) x nx (by omega) h; exact ⟨by have := this.lo; omega, this.hi⟩)
                (fun fr2 c p h => (elemB_place h).2.1)
                (byteAt b i / 64) (byteAt b i % 32) true (fr + v - fr) fr F [] st (by omega) (by omega) (by omega) (by simp; omega) h
              generalize kidsB (elemB b d) (fr + v - fr) fr (fr + v) = kr at *
              clear hC ih
              cases kr with
              | ok l =>
                simp [Tlv.cellsL] at hL
                simp only [Tlv.cells]
                unfold rdr at ks kl hL ⊢
                simp [htt, hlin, hreg, reg58, hcall, hcallP, hlv_25, hlv_100025, ks, h1, f1, f4, r0, e1, e2, e5, e6, e7, e8, e9, e10, e11, e12, e13, e14, e15, e16, t1, t2, t3, t4, c2, c3, kl, ev_loop]
                rw [hL _ (by simp [Tlv.cellsL])]
                simp [htt, hlin, hreg, reg58, hcall, hcallP, hlv_25, hlv_100025]
              | bad c p =>
                simp only at hL
                have hL2 := fun st h => Classical.choose_spec (Classical.choose_spec (hL st h))
                simp only at hL2 ⊢
                unfold rdr at ks kl hL2 ⊢
                simp [htt, hlin, hreg, reg58, hcall, hcallP, hlv_25, hlv_100025, ks, h1, f1, f4, r0, e1, e2, e5, e6, e7, e8, e9, e10, e11, e12, e13, e14, e15, e16, t1, t2, t3, t4, c2, c3, kl, ev_loop]
                apply Exists.intro
                rw [(hL2 _ (by simp [Tlv.cellsL])).1]
                exact (hL2 _ (by simp [Tlv.cellsL])).2
end Go.Proofs.YtjmcgdhekjkjfaaDoor
