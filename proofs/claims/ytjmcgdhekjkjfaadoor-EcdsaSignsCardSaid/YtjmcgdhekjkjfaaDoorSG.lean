/- What der's reader.element hands back. -/
import Derived.Test.YtjmcgdhekjkjfaaDoorSF
import Derived.Test.YtjmcgdhekjkjfaaDoorSC
set_option linter.unusedSimpArgs false
set_option linter.unusedVariables false
namespace Go.Proofs.YtjmcgdhekjkjfaaDoor
open Go Go.VM
variable {G : GE}
set_option maxRecDepth 100000
set_option maxHeartbeats 4000000
theorem t_delem (F : Nat) (hF : 1048580 < F) (b : List Int) (nl : Bool) (hnl : nl = true → b = []) (hb : ∀ c ∈ b, 0 ≤ c ∧ c < 256) (hlen : b.length ≤ 1048576) :
    ∀ (d e n i stop : Nat), d + e = 16 → stop ≤ b.length → i ≤ stop →
    callN (envG G) F (n + d + 3) 56 [.d (.agg [.nums .u8 nl b]), .d (.int .i64 i), .d (.int .i64 stop), .d (.int .i64 e)] = some ⟨elemV (elemB b d i stop), []⟩ := by
  intro d
  induction d with
  | zero =>
    intro e n i stop he hs hi
    have ks := fun c p => t_spot (G := G) F (n + 1) c p
    rw [callN_run (fn := Tryd.f56) rfl rfl rfl (by simp [Tryd.ntmps56])]
    generalize hC : (envG G).ctx 56 (callN (envG G) F (n+2)) (callP (envG G) F (n+2)) = C
    have htt : C.tt = (envG G).tt := by rw [← hC]; rfl
    have hlin : C.lin = [104, 75, 74, 17, 13, 14, 117, 108, 91, 79, 44, 32, 24, 10, 9, 110] := by rw [← hC]; rfl
    have hreg : C.reg = reg56 := by rw [← hC]; rfl
    have hcall : C.call = callN (envG G) F (n+2) := by rw [← hC]; rfl
    have hcallP : C.callP = callP (envG G) F (n+2) := by rw [← hC]; rfl
    have hlv_14 : C.live 14 = [3, 4, 8, 11, 12, 13] := by rw [← hC]; rfl
    have hlv_100014 : C.live 100014 = [8, 9, 10, 11, 13] := by rw [← hC]; rfl
    have hlv_200007 : C.live 200007 = [] := by rw [← hC]; rfl
    have hlv_250007 : C.live 250007 = [] := by rw [← hC]; rfl
    unfold spotD err at ks
    have h1 : (16 : Int) ≤ (e : Int) := by omega
    simp only [elemB, elemV, spotD, err, zeroT, Tlv.cells, Tlv.cellsL]
    simp [htt, hlin, hreg, reg56, hcall, hcallP, hlv_14, hlv_100014, hlv_200007, hlv_250007, ks, h1]
  | succ d ih =>
    intro e n i stop he hs hi
    have ks : ∀ c p, callN (envG G) F (n + d + 3) _ _ = _ := fun c p => t_spot (G := G) F (n + d + 2) c p
    have kl : callN (envG G) F (n + d + 3) _ _ = _ := t_dlength (G := G) F (n + d + 1) (by omega) b nl hb hlen (i + 1) stop hs (by omega)
    rw [show ((i + 1 : Nat) : Int) = (i : Int) + 1 by omega] at kl
    have kc : ∀ xs h, callN (envG G) F (n + d + 3) _ _ = _ := fun xs h => t_clone (G := G) F (n + d + 2) xs h
    have g0 := byteAt_ok hb i
    rw [show n + (d + 1) + 3 = n + d + 3 + 1 by omega]
    rw [callN_run (fn := Tryd.f56) rfl rfl rfl (by simp [Tryd.ntmps56])]
    generalize hC : (envG G).ctx 56 (callN (envG G) F (n+d+3)) (callP (envG G) F (n+d+3)) = C
    have htt : C.tt = (envG G).tt := by rw [← hC]; rfl
    have hlin : C.lin = [104, 75, 74, 17, 13, 14, 117, 108, 91, 79, 44, 32, 24, 10, 9, 110] := by rw [← hC]; rfl
    have hreg : C.reg = reg56 := by rw [← hC]; rfl
    have hcall : C.call = callN (envG G) F (n+d+3) := by rw [← hC]; rfl
    have hcallP : C.callP = callP (envG G) F (n+d+3) := by rw [← hC]; rfl
    have hlv_14 : C.live 14 = [3, 4, 8, 11, 12, 13] := by rw [← hC]; rfl
    have hlv_100014 : C.live 100014 = [8, 9, 10, 11, 13] := by rw [← hC]; rfl
    have hlv_200007 : C.live 200007 = [] := by rw [← hC]; rfl
    have hlv_250007 : C.live 250007 = [] := by rw [← hC]; rfl
    unfold spotD err at ks
    have h1 : ¬ (16 : Int) ≤ (e : Int) := by omega
    have e1 : (i : Int) + 1 ≤ 9223372036854775807 := by omega
    have e2 : (-9223372036854775808 : Int) ≤ (i : Int) + 1 := by omega
    simp only [elemB]
    by_cases c1 : stop ≤ i
    · have f1 : (stop : Int) ≤ (i : Int) := by omega
      rw [if_pos c1]
      simp only [elemV, spotD, err, zeroT, Tlv.cells, Tlv.cellsL]
      simp [htt, hlin, hreg, reg56, hcall, hcallP, hlv_14, hlv_100014, hlv_200007, hlv_250007, ks, h1, f1]
    · have f1 : ¬ (stop : Int) ≤ (i : Int) := by omega
      have r0 := byteAt_get (b := b) (i := i) (by omega)
      have hnf : nl = false := by
        cases nl with
        | false => rfl
        | true => rw [hnl rfl] at hs; simp at hs; omega
      have a1 := and31 g0
      have a2 := and32 g0
      rw [if_neg c1]
      by_cases c2 : byteAt b i % 32 = 31
      · rw [if_pos c2]
        rw [c2] at a1
        simp only [elemV, spotD, err, zeroT, Tlv.cells, Tlv.cellsL]
        simp [htt, hlin, hreg, reg56, hcall, hcallP, hlv_14, hlv_100014, hlv_200007, hlv_250007, ks, h1, f1, r0, a1]
      · rw [if_neg c2]
        have a3 : (byteAt b i).fdiv (2 ^ 6) = byteAt b i / 64 := Int.fdiv_eq_ediv_of_nonneg _ (by omega)
        simp at a3
        have e3 : byteAt b i / 64 ≤ 255 := by omega
        have e4 : 0 ≤ byteAt b i / 64 := by omega
        have e5 : byteAt b i / 64 ≤ 9223372036854775807 := by omega
        have e6 : (-9223372036854775808 : Int) ≤ byteAt b i / 64 := by omega
        have e7 : byteAt b i % 32 ≤ 9223372036854775807 := by omega
        have e8 : (-9223372036854775808 : Int) ≤ byteAt b i % 32 := by omega
        generalize hsp : spanB b (i + 1) stop = sp at *
        cases sp with
        | bad c p =>
          simp only [spanV, spotD, err] at kl
          simp only [elemV, spotD, err, zeroT, Tlv.cells, Tlv.cellsL]
          simp [htt, hlin, hreg, reg56, hcall, hcallP, hlv_14, hlv_100014, hlv_200007, hlv_250007, ks, h1, f1, r0, a1, a3, c2, e1, e2, e3, e4, e5, e6, e7, e8, kl]
        | ok ft =>
          obtain ⟨fr, to⟩ := ft
          have hp := spanB_ok hb hs hsp
          simp only [spanV] at kl ⊢
          by_cases c3 : byteAt b i / 32 % 2 = 1
          case neg =>
            have a4 := a2.2 c3
            rw [if_neg c3]
            have f2 : (fr : Int) ≤ (to : Int) := by omega
            have f3 : (to : Int) ≤ b.length := by omega
            have hll : ((b.take to).drop fr).length ≤ 140737488355328 := by simp; omega
            have hdt : (b.take to).drop fr = (b.drop fr).take (to - fr) := by rw [List.drop_take]
            rw [← hdt]
            have kc' := kc _ hll
            generalize hus : (b.take to).drop fr = us at *
            subst hnf
            simp only [elemV, Tlv.cells, Tlv.cellsL]
            simp [htt, hlin, hreg, reg56, hcall, hcallP, hlv_14, hlv_100014, hlv_200007, hlv_250007, ks, h1, f1, f2, f3, r0, a1, a3, a4, c2, e1, e2, e3, e4, e5, e6, e7, e8, kl, kc', hus]
          case pos =>
            have a4 : ¬ andI .u8 (byteAt b i) 32 = 0 := fun h => a2.1 h c3
            rw [if_pos c3]
            have hL := fun st h => loop_elem (G := G) hC rfl b nl e to (by omega) (by omega) (elemB b d) (fun fr hfr => by
                have := ih (e + 1) n fr to (by omega) (by omega) hfr
                simpa using this)
              (fun fr x nx h => by have := elemB_ok hb d fr to x nx (by omega) h; exact ⟨by have := this.lo; omega, this.hi⟩)
              (.int .i64 (byteAt b i / 64)) (.int .i64 (byteAt b i % 32)) (.bool true) (.nums .u8 true []) (to - fr) fr F [] st (by omega) (by omega) (by omega) (by simp; omega) h
            generalize kidsB (elemB b d) (to - fr) fr to = kr at *
            clear hC ih
            cases kr with
            | ok l =>
              simp at hL
              simp only [elemV, Tlv.cells]
              simp [htt, hlin, hreg, reg56, hcall, hcallP, hlv_14, hlv_100014, hlv_200007, hlv_250007, ks, h1, f1, r0, a1, a3, a4, c2, e1, e2, e3, e4, e5, e6, e7, e8, kl, ev_loop]
              rw [hL _ (by simp [Tlv.cellsL])]
              simp [htt, hlin, hreg, reg56, hcall, hcallP, hlv_14, hlv_100014, hlv_200007, hlv_250007]
            | bad c p =>
              have hL2 := fun st h => Classical.choose_spec (hL st h)
              simp at hL2
              simp only [elemV, spotD, err, zeroT, Tlv.cells, Tlv.cellsL] at hL2 ⊢
              simp [htt, hlin, hreg, reg56, hcall, hcallP, hlv_14, hlv_100014, hlv_200007, hlv_250007, ks, h1, f1, r0, a1, a3, a4, c2, e1, e2, e3, e4, e5, e6, e7, e8, kl, ev_loop]
              rw [(hL2 _ (by simp [Tlv.cellsL])).1]
              simp [htt, hlin, hreg, reg56, hcall, hcallP, hlv_14, hlv_100014, hlv_200007, hlv_250007]
              exact (hL2 _ (by simp [Tlv.cellsL])).2
end Go.Proofs.YtjmcgdhekjkjfaaDoor
set_option linter.unusedSimpArgs false
set_option linter.unusedVariables false
namespace Go.Proofs.YtjmcgdhekjkjfaaDoor
open Go Go.VM
variable {G : GE}
set_option maxRecDepth 100000
set_option maxHeartbeats 4000000
def atD (c p : Int) : D := if p < 0 then err c else spotD c p
def parseV : Res Tlv → List V
  | .ok x => [.d (.agg x.cells), .d .nilifc]
  | .bad c p => [.d (.agg zeroT.cells), .d (atD c p)]
theorem elemB_place : ∀ {b : List Int} {d i stop : Nat} {c p : Int}, elemB b d i stop = .bad c p → 0 ≤ p ∧ 1 ≤ c ∧ c ≤ 9 := by
  have hlen : ∀ {b : List Int} {i stop : Nat} {c p : Int}, lenB b i stop = .bad c p → 0 ≤ p ∧ 1 ≤ c ∧ c ≤ 9 := by
    intro b i stop c p h
    unfold lenB at h
    repeat' (split at h)
    all_goals (first | (injection h with h1 h2; omega) | cases h)
  have hsp : ∀ {b : List Int} {i stop : Nat} {c p : Int}, spanB b i stop = .bad c p → 0 ≤ p ∧ 1 ≤ c ∧ c ≤ 9 := by
    intro b i stop c p h
    unfold spanB at h
    split at h
    · rename_i hl; injection h with h1 h2; subst h1; subst h2; exact hlen hl
    · split at h
      · injection h with h1 h2; omega
      · cases h
  have hk : ∀ (g : Nat → Nat → Res (Tlv × Nat)), (∀ i t c p, g i t = .bad c p → 0 ≤ p ∧ 1 ≤ c ∧ c ≤ 9) → ∀ (k fr to : Nat) (c p : Int), kidsB g k fr to = .bad c p → 0 ≤ p ∧ 1 ≤ c ∧ c ≤ 9 := by
    intro g hg k
    induction k with
    | zero => intro fr to c p h; cases h
    | succ k ih =>
      intro fr to c p h
      simp only [kidsB] at h
      split at h
      · split at h
        · rename_i h1; injection h with h2 h3; subst h2; subst h3; exact hg _ _ _ _ h1
        · split at h
          · rename_i h1; injection h with h2 h3; subst h2; subst h3; exact ih _ _ _ _ h1
          · cases h
      · cases h
  intro b d
  induction d with
  | zero => intro i stop c p h; simp only [elemB] at h; injection h with h1 h2; omega
  | succ d ih =>
    intro i stop c p h
    simp only [elemB] at h
    split at h
    · injection h with h1 h2; omega
    split at h
    · injection h with h1 h2; omega
    split at h
    · rename_i h1; injection h with h2 h3; subst h2; subst h3; exact hsp h1
    split at h
    · split at h
      · rename_i h1; injection h with h2 h3; subst h2; subst h3; exact hk _ (fun i t c p h => ih h) _ _ _ _ _ h1
      · cases h
    · cases h
theorem t_Parse (F : Nat) (hF : 1048580 < F) (n : Nat) (b : List Int) (nl : Bool) (hnl : nl = true → b = []) (hb : ∀ c ∈ b, 0 ≤ c ∧ c < 256) :
    callN (envG G) F (n + 20) 12 [.d (.nums .u8 nl b)] = some ⟨parseV (parseB b), []⟩ := by
  have ks : ∀ c p, callN (envG G) F (n + 19) _ _ = _ := fun c p => t_spot (G := G) F (n + 18) c p
  have ke : b.length ≤ 1048576 → callN (envG G) F (n + 19) _ _ = _ := fun h => t_delem (G := G) F hF b nl hnl hb h 16 0 n 0 b.length (by omega) (by omega) (by omega)
  have kp := @elemB_place b 16 0 b.length
  have ko := fun x e => elemB_ok hb 16 0 b.length x e (Nat.le_refl _)
  rw [callN_run (fn := Tryd.f12) rfl rfl rfl (by simp [Tryd.ntmps12])]
  generalize hC : (envG G).ctx 12 (callN (envG G) F (n+19)) (callP (envG G) F (n+19)) = C
  have htt : C.tt = (envG G).tt := by rw [← hC]; rfl
  have hlin : C.lin = [] := by rw [← hC]; rfl
  have hreg : C.reg = reg12 := by rw [← hC]; rfl
  have hcall : C.call = callN (envG G) F (n+19) := by rw [← hC]; rfl
  have hcallP : C.callP = callP (envG G) F (n+19) := by rw [← hC]; rfl
  unfold parseB
  by_cases c1 : 1048576 < b.length
  · have f1 : (1048576 : Int) < b.length := by omega
    simp only [if_pos c1, parseV, atD, err, zeroT, Tlv.cells, Tlv.cellsL]
    simp [htt, hlin, hreg, reg12, hcall, hcallP, f1]
  · have f1 : ¬ (1048576 : Int) < b.length := by omega
    have ke' := ke (by omega)
    clear ke
    rw [if_neg c1]
    generalize elemB b 16 0 b.length = r at *
    cases r with
    | bad c p =>
      have hp := kp rfl
      simp only [elemV, spotD, err, zeroT, Tlv.cells, Tlv.cellsL] at ke'
      simp at ke'
      simp only [parseV, atD, if_neg (by omega : ¬ p < 0), spotD, err, zeroT, Tlv.cells, Tlv.cellsL]
      simp [htt, hlin, hreg, reg12, hcall, hcallP, f1, ke']
    | ok r =>
      obtain ⟨x, e⟩ := r
      have hx := ko x e rfl
      have hh := hx.hi
      clear ko kp hx
      obtain ⟨xc, xt, xm, xbn, xb, xkn, xks⟩ := x
      simp only [elemV, Tlv.cells] at ke'
      simp at ke'
      unfold spotD err at ks
      by_cases c2 : e < b.length
      · have f2 : (e : Int) < b.length := by omega
        simp only [if_pos c2, parseV, atD, spotD, err, zeroT, Tlv.cells, Tlv.cellsL, if_neg (by omega : ¬ (e : Int) < 0)]
        simp [htt, hlin, hreg, reg12, hcall, hcallP, f1, ke', f2, ks]
      · have f2 : ¬ (e : Int) < b.length := by omega
        simp only [if_neg c2, parseV, Tlv.cells]
        simp [htt, hlin, hreg, reg12, hcall, hcallP, f1, ke', f2, ks]
end Go.Proofs.YtjmcgdhekjkjfaaDoor
set_option linter.unusedSimpArgs false
set_option linter.unusedVariables false
namespace Go.Proofs.YtjmcgdhekjkjfaaDoor
open Go Go.VM
variable {G : GE}
set_option maxRecDepth 100000
set_option maxHeartbeats 4000000
theorem loop_code {m : Nat} {C : Ctx} {F : Nat} (hC : (envG G).ctx 15 (callN (envG G) F (m)) (callP (envG G) F (m)) = C) {c : Code} (hc : loopAt 4 Tryd.f15 = some c) (q : Int) : ∀ (u : Nat) (i : Int) (k : Nat) (st : St), i + u = 22 → 1 ≤ i → u < k →
    st.trim 0 [0, 3] = ⟨[(0, .d (err q)), (3, .d (.int .i64 i))], [], []⟩ →
    iter (ev C F c) 0 [0, 3] [2] k st = if i ≤ q ∧ q ≤ 21 then some (.ret, ⟨[(2, .d (.int .i64 q))], [], []⟩) else some (.exit 0, ⟨[], [], []⟩) := by
  have htt : C.tt = (envG G).tt := by rw [← hC]; rfl
  have hlin : C.lin = [] := by rw [← hC]; rfl
  have hreg : C.reg = reg15 := by rw [← hC]; rfl
  have hcall : C.call = callN (envG G) F (m) := by rw [← hC]; rfl
  have hcallP : C.callP = callP (envG G) F (m) := by rw [← hC]; rfl
  have hlv_4 : C.live 4 = [0, 3] := by rw [← hC]; rfl
  have hlv_100004 : C.live 100004 = [2] := by rw [← hC]; rfl
  have hev : ∀ st, ev C F c st = ev C F ((loopAt 4 Tryd.f15).getD .skip) st := fun st => by rw [hc]; rfl
  unfold err
  intro u
  induction u with
  | zero =>
    intro i k st hu h1 hk hst
    obtain ⟨k, rfl⟩ : ∃ j, k = j + 1 := ⟨k - 1, by omega⟩
    have hc : i = 22 := by omega
    subst hc
    rw [if_neg (by omega)]
    rw [iter_eq, hst, hev]
    simp [loopAt, findLoop, Tryd.f15, htt, hlin, hreg, reg15, hcall, hcallP, hlv_4, hlv_100004]
  | succ u ih =>
    intro i k st hu h1 hk hst
    obtain ⟨k, rfl⟩ : ∃ j, k = j + 1 := ⟨k - 1, by omega⟩
    have e0 : i ≤ 21 := by omega
    have e0' : ¬ 21 < i := by omega
    have e1 : i + 1 ≤ 9223372036854775807 := by omega
    have e2 : -9223372036854775808 ≤ i + 1 := by omega
    have ih' := fun st h => ih (i + 1) k st (by omega) (by omega) (by omega) h
    by_cases hq : q = i
    · subst hq
      rw [if_pos (by omega)]
      rw [iter_eq, hst, hev]
      simp [loopAt, findLoop, Tryd.f15, htt, hlin, hreg, reg15, hcall, hcallP, hlv_4, hlv_100004, e0, e0', e1, e2]
    · have e3 : (i + 1 ≤ q ∧ q ≤ 21) ↔ (i ≤ q ∧ q ≤ 21) := by omega
      simp only [e3] at ih'
      rw [iter_eq, hst, hev]
      simp [loopAt, findLoop, Tryd.f15, htt, hlin, hreg, reg15, hcall, hcallP, hlv_4, hlv_100004, e0, e0', e1, e2, hq]
      exact ih' _ (by simp)
theorem loop_code2 {m : Nat} {C : Ctx} {F : Nat} (hC : (envG G).ctx 15 (callN (envG G) F (m)) (callP (envG G) F (m)) = C) {c : Code} (hc : loopAt 4 Tryd.f15 = some c) (q p : Int) : ∀ (u : Nat) (i : Int) (k : Nat) (st : St), i + u = 22 → 1 ≤ i → u < k →
    st.trim 0 [0, 3] = ⟨[(0, .d (spotD q p)), (3, .d (.int .i64 i))], [], []⟩ →
    iter (ev C F c) 0 [0, 3] [2] k st = some (.exit 0, ⟨[], [], []⟩) := by
  have htt : C.tt = (envG G).tt := by rw [← hC]; rfl
  have hlin : C.lin = [] := by rw [← hC]; rfl
  have hreg : C.reg = reg15 := by rw [← hC]; rfl
  have hcall : C.call = callN (envG G) F (m) := by rw [← hC]; rfl
  have hcallP : C.callP = callP (envG G) F (m) := by rw [← hC]; rfl
  have hlv_4 : C.live 4 = [0, 3] := by rw [← hC]; rfl
  have hlv_100004 : C.live 100004 = [2] := by rw [← hC]; rfl
  have hev : ∀ st, ev C F c st = ev C F ((loopAt 4 Tryd.f15).getD .skip) st := fun st => by rw [hc]; rfl
  unfold spotD err
  intro u
  induction u with
  | zero =>
    intro i k st hu h1 hk hst
    obtain ⟨k, rfl⟩ : ∃ j, k = j + 1 := ⟨k - 1, by omega⟩
    have hc : i = 22 := by omega
    subst hc
    rw [iter_eq, hst, hev]
    simp [loopAt, findLoop, Tryd.f15, htt, hlin, hreg, reg15, hcall, hcallP, hlv_4, hlv_100004]
  | succ u ih =>
    intro i k st hu h1 hk hst
    obtain ⟨k, rfl⟩ : ∃ j, k = j + 1 := ⟨k - 1, by omega⟩
    have e0 : i ≤ 21 := by omega
    have e0' : ¬ 21 < i := by omega
    have e1 : i + 1 ≤ 9223372036854775807 := by omega
    have e2 : -9223372036854775808 ≤ i + 1 := by omega
    have ih' := fun st h => ih (i + 1) k st (by omega) (by omega) (by omega) h
    rw [iter_eq, hst, hev]
    simp [loopAt, findLoop, Tryd.f15, htt, hlin, hreg, reg15, hcall, hcallP, hlv_4, hlv_100004, e0, e0', e1, e2]
    exact ih' _ (by simp)
theorem t_Code (F n : Nat) (hF : 22 < F) (q : Int) : callN (envG G) F (n+1) 15 [.d (err q)] = some ⟨[.d (.int .i64 (if 1 ≤ q ∧ q ≤ 21 then q else -1))], []⟩ := by
  rw [callN_run (fn := Tryd.f15) rfl rfl rfl (by simp [Tryd.ntmps15])]
  generalize hC : (envG G).ctx 15 (callN (envG G) F (n)) (callP (envG G) F (n)) = C
  have htt : C.tt = (envG G).tt := by rw [← hC]; rfl
  have hlin : C.lin = [] := by rw [← hC]; rfl
  have hreg : C.reg = reg15 := by rw [← hC]; rfl
  have hcall : C.call = callN (envG G) F (n) := by rw [← hC]; rfl
  have hcallP : C.callP = callP (envG G) F (n) := by rw [← hC]; rfl
  have hlv_4 : C.live 4 = [0, 3] := by rw [← hC]; rfl
  have hlv_100004 : C.live 100004 = [2] := by rw [← hC]; rfl
  have hL := fun st h => loop_code (G := G) hC rfl q 21 1 F st (by omega) (by omega) (by omega) h
  unfold err at hL ⊢
  simp [htt, hlin, hreg, reg15, hcall, hcallP, hlv_4, hlv_100004, ev_loop]
  by_cases hq : 1 ≤ q ∧ q ≤ 21
  · rw [if_pos hq] at hL ⊢
    rw [hL _ (by simp)]
    simp [htt, hlin, hreg, reg15, hcall, hcallP, hlv_4, hlv_100004]
  · rw [if_neg hq] at hL ⊢
    rw [hL _ (by simp)]
    simp [htt, hlin, hreg, reg15, hcall, hcallP, hlv_4, hlv_100004]
theorem t_Code_nil (F n : Nat) : callN (envG G) F (n+1) 15 [.d .nilifc] = some ⟨[.d (.int .i64 0)], []⟩ := by
  rw [callN_run (fn := Tryd.f15) rfl rfl rfl (by simp [Tryd.ntmps15])]
  generalize hC : (envG G).ctx 15 (callN (envG G) F (n)) (callP (envG G) F (n)) = C
  have htt : C.tt = (envG G).tt := by rw [← hC]; rfl
  have hlin : C.lin = [] := by rw [← hC]; rfl
  have hreg : C.reg = reg15 := by rw [← hC]; rfl
  have hcall : C.call = callN (envG G) F (n) := by rw [← hC]; rfl
  have hcallP : C.callP = callP (envG G) F (n) := by rw [← hC]; rfl
  have hlv_4 : C.live 4 = [0, 3] := by rw [← hC]; rfl
  have hlv_100004 : C.live 100004 = [2] := by rw [← hC]; rfl
  simp [htt, hlin, hreg, reg15, hcall, hcallP, hlv_4, hlv_100004]
theorem t_Code_spot (F n : Nat) (hF : 22 < F) (q p : Int) : callN (envG G) F (n+1) 15 [.d (spotD q p)] = some ⟨[.d (.int .i64 (-1))], []⟩ := by
  rw [callN_run (fn := Tryd.f15) rfl rfl rfl (by simp [Tryd.ntmps15])]
  generalize hC : (envG G).ctx 15 (callN (envG G) F (n)) (callP (envG G) F (n)) = C
  have htt : C.tt = (envG G).tt := by rw [← hC]; rfl
  have hlin : C.lin = [] := by rw [← hC]; rfl
  have hreg : C.reg = reg15 := by rw [← hC]; rfl
  have hcall : C.call = callN (envG G) F (n) := by rw [← hC]; rfl
  have hcallP : C.callP = callP (envG G) F (n) := by rw [← hC]; rfl
  have hlv_4 : C.live 4 = [0, 3] := by rw [← hC]; rfl
  have hlv_100004 : C.live 100004 = [2] := by rw [← hC]; rfl
  have hL := fun st h => loop_code2 (G := G) hC rfl q p 21 1 F st (by omega) (by omega) (by omega) h
  unfold spotD err at hL ⊢
  simp [htt, hlin, hreg, reg15, hcall, hcallP, hlv_4, hlv_100004, ev_loop]
  rw [hL _ (by simp)]
  simp [htt, hlin, hreg, reg15, hcall, hcallP, hlv_4, hlv_100004]
end Go.Proofs.YtjmcgdhekjkjfaaDoor
set_option linter.unusedSimpArgs false
set_option linter.unusedVariables false
namespace Go.Proofs.YtjmcgdhekjkjfaaDoor
open Go Go.VM
variable {G : GE}
set_option maxRecDepth 100000
set_option maxHeartbeats 4000000
theorem t_IsList (F n : Nat) (x1 x2 : Int) (x3 x4 : Bool) (x5 : List Int) (x6 : Bool) (x7 : List Tlv) (k : Int) :
    callN (envG G) F (n+1) 64 [.d (.agg [.int .i64 x1, .int .i64 x2, .bool x3, .nums .u8 x4 x5, .sl 5 x6 (Tlv.cellsL x7)]), .d (.int .i64 k)] = some ⟨[.d (.bool (decide (x1 = 0 ∧ x2 = 16 ∧ x3 = true ∧ (k < 0 ∨ (x7.length : Int) = k))))], []⟩ := by
  rw [callN_run (fn := Tryd.f64) rfl rfl rfl (by simp [Tryd.ntmps64])]
  generalize hC : (envG G).ctx 64 (callN (envG G) F (n)) (callP (envG G) F (n)) = C
  have htt : C.tt = (envG G).tt := by rw [← hC]; rfl
  have hlin : C.lin = [] := by rw [← hC]; rfl
  have hreg : C.reg = reg64 := by rw [← hC]; rfl
  have hcall : C.call = callN (envG G) F (n) := by rw [← hC]; rfl
  have hcallP : C.callP = callP (envG G) F (n) := by rw [← hC]; rfl
  have hl := cellsL_len x7
  by_cases h1 : x1 = 0
  · by_cases h2 : x2 = 16
    · cases x3
      · simp [htt, hlin, hreg, reg64, hcall, hcallP, h1, h2]
      · by_cases h3 : k < 0
        · simp [htt, hlin, hreg, reg64, hcall, hcallP, h1, h2, h3]
        · by_cases h4 : (x7.length : Int) = k
          · simp [htt, hlin, hreg, reg64, hcall, hcallP, h1, h2, h3, h4, hl]
          · simp [htt, hlin, hreg, reg64, hcall, hcallP, h1, h2, h3, h4, hl]
    · simp [htt, hlin, hreg, reg64, hcall, hcallP, h1, h2]
  · simp [htt, hlin, hreg, reg64, hcall, hcallP, h1]
theorem t_IsPlain (F n : Nat) (x1 x2 : Int) (x3 x4 : Bool) (x5 : List Int) (x6 : Bool) (x7 : List Tlv) (k : Int) :
    callN (envG G) F (n+1) 66 [.d (.agg [.int .i64 x1, .int .i64 x2, .bool x3, .nums .u8 x4 x5, .sl 5 x6 (Tlv.cellsL x7)]), .d (.int .i64 k)] = some ⟨[.d (.bool (decide (x1 = 0 ∧ x2 = k ∧ x3 = false)))], []⟩ := by
  rw [callN_run (fn := Tryd.f66) rfl rfl rfl (by simp [Tryd.ntmps66])]
  generalize hC : (envG G).ctx 66 (callN (envG G) F (n)) (callP (envG G) F (n)) = C
  have htt : C.tt = (envG G).tt := by rw [← hC]; rfl
  have hlin : C.lin = [] := by rw [← hC]; rfl
  have hreg : C.reg = reg66 := by rw [← hC]; rfl
  have hcall : C.call = callN (envG G) F (n) := by rw [← hC]; rfl
  have hcallP : C.callP = callP (envG G) F (n) := by rw [← hC]; rfl
  by_cases h1 : x1 = 0
  · by_cases h2 : x2 = k
    · cases x3 <;> simp [htt, hlin, hreg, reg66, hcall, hcallP, h1, h2]
    · simp [htt, hlin, hreg, reg66, hcall, hcallP, h1, h2]
  · simp [htt, hlin, hreg, reg66, hcall, hcallP, h1]
def smallV (b : List Int) : Int := match small b with | .inl _ => 0 | .inr v => v
def smallOk (b : List Int) : Bool := match small b with | .inl _ => false | .inr _ => true
theorem t_SmallOf (F n : Nat) (hF : 100 ≤ F) (x1 x2 : Int) (x3 x4 : Bool) (x5 : List Int) (x6 : Bool) (x7 : List Tlv) (hn : x4 = true → x5 = []) (hx : x5.length ≤ 140737488355328) (hb : ∀ x ∈ x5, 0 ≤ x ∧ x < 256) :
    callN (envG G) F (n+4) 65 [.d (.agg [.int .i64 x1, .int .i64 x2, .bool x3, .nums .u8 x4 x5, .sl 5 x6 (Tlv.cellsL x7)])] = some ⟨(if x1 = 0 ∧ x2 = 2 ∧ x3 = false then [.d (.int .i64 (smallV x5)), .d (.bool (smallOk x5))] else [.d (.int .i64 0), .d (.bool false)]), []⟩ := by
  have k1 := t_IsPlain (G := G) F (n + 2) x1 x2 x3 x4 x5 x6 x7 2
  have k2 := t_Small (G := G) F n hF x4 x5 hn hx hb
  rw [callN_run (fn := Tryd.f65) rfl rfl rfl (by simp [Tryd.ntmps65])]
  generalize hC : (envG G).ctx 65 (callN (envG G) F (n+3)) (callP (envG G) F (n+3)) = C
  have htt : C.tt = (envG G).tt := by rw [← hC]; rfl
  have hlin : C.lin = [] := by rw [← hC]; rfl
  have hreg : C.reg = reg65 := by rw [← hC]; rfl
  have hcall : C.call = callN (envG G) F (n+3) := by rw [← hC]; rfl
  have hcallP : C.callP = callP (envG G) F (n+3) := by rw [← hC]; rfl
  have hlv_200004 : C.live 200004 = [] := by rw [← hC]; rfl
  have hlv_250004 : C.live 250004 = [] := by rw [← hC]; rfl
  by_cases h : x1 = 0 ∧ x2 = 2 ∧ x3 = false
  · rw [if_pos h]
    rw [decide_eq_true h] at k1
    unfold smallV smallOk
    cases hs : small x5 with
    | inl e =>
      rw [hs] at k2
      unfold err at k2
      simp [htt, hlin, hreg, reg65, hcall, hcallP, hlv_200004, hlv_250004, k1, k2]
    | inr v =>
      rw [hs] at k2
      simp [htt, hlin, hreg, reg65, hcall, hcallP, hlv_200004, hlv_250004, k1, k2]
  · rw [if_neg h]
    rw [decide_eq_false h] at k1
    simp [htt, hlin, hreg, reg65, hcall, hcallP, hlv_200004, hlv_250004, k1]
end Go.Proofs.YtjmcgdhekjkjfaaDoor
set_option linter.unusedSimpArgs false
set_option linter.unusedVariables false
namespace Go.Proofs.YtjmcgdhekjkjfaaDoor
open Go Go.VM
variable {G : GE}
set_option maxRecDepth 100000
set_option maxHeartbeats 4000000
theorem loop_numof {m : Nat} {C : Ctx} {F : Nat} (hC : (envG G).ctx 116 (callN (envG G) F (m)) (callP (envG G) F (m)) = C) {c : Code} (hc : loopAt 1 Tryd.f116 = some c) (nl : Bool) :
    ∀ (xs : List Int) (k : Nat) (st : St), xs.length < k → st.trim 0 [0] = ⟨[(0, .d (.nums .u8 nl xs))], [], []⟩ →
      iter (ev C F c) 0 [0] [0, 2, 3] k st = some (.exit 0, ⟨[(0, .d (.nums .u8 nl (strip xs)))], [], []⟩) := by
  have htt : C.tt = (envG G).tt := by rw [← hC]; rfl
  have hlin : C.lin = [34, 32, 19, 3, 2, 30] := by rw [← hC]; rfl
  have hreg : C.reg = reg116 := by rw [← hC]; rfl
  have hcall : C.call = callN (envG G) F (m) := by rw [← hC]; rfl
  have hcallP : C.callP = callP (envG G) F (m) := by rw [← hC]; rfl
  have hlv_1 : C.live 1 = [0] := by rw [← hC]; rfl
  have hlv_100001 : C.live 100001 = [0, 2, 3] := by rw [← hC]; rfl
  have hev : ∀ st, ev C F c st = ev C F ((loopAt 1 Tryd.f116).getD .skip) st := fun st => by rw [hc]; rfl
  intro xs
  induction xs with
  | nil =>
    intro k st hk hst
    obtain ⟨k, rfl⟩ : ∃ j, k = j + 1 := ⟨k - 1, by simp at hk; omega⟩
    rw [iter_eq, hst, hev]
    simp [loopAt, findLoop, Tryd.f116, htt, hlin, hreg, reg116, hcall, hcallP, hlv_1, hlv_100001, strip]
  | cons b t ih =>
    intro k st hk hst
    obtain ⟨k, rfl⟩ : ∃ j, k = j + 1 := ⟨k - 1, by simp at hk; omega⟩
    simp at hk
    have e1 : (0 : Int) < (t.length : Int) + 1 := by omega
    have e2 : (1 : Int) ≤ (t.length : Int) + 1 := by omega
    rw [iter_eq, hst, hev]
    by_cases h : b = 0
    · subst h
      have hq := fun st h => ih k st hk h
      simp [loopAt, findLoop, Tryd.f116, htt, hlin, hreg, reg116, hcall, hcallP, hlv_1, hlv_100001, e1, e2, strip]
      exact hq _ (by simp)
    · simp [loopAt, findLoop, Tryd.f116, htt, hlin, hreg, reg116, hcall, hcallP, hlv_1, hlv_100001, h, e1, e2, strip]
theorem t_NumberOf (F n : Nat) (nl : Bool) (xs : List Int) (hn : nl = true → xs = []) (hf : xs.length < F) : callN (envG G) F (n+2) 116 [.d (.nums .u8 nl xs)] = some (match numberOf xs with
    | .inl e => ⟨[.d (.nums .u8 true []), .d (err e)], [0]⟩
    | .inr ys => ⟨[.d (.nums .u8 false ys), .d .nilifc], [0]⟩) := by
  have kc := fun xs h => t_clone (G := G) F n xs h
  rw [callN_run (fn := Tryd.f116) rfl rfl rfl (by simp [Tryd.ntmps116])]
  generalize hC : (envG G).ctx 116 (callN (envG G) F (n+1)) (callP (envG G) F (n+1)) = C
  have htt : C.tt = (envG G).tt := by rw [← hC]; rfl
  have hlin : C.lin = [34, 32, 19, 3, 2, 30] := by rw [← hC]; rfl
  have hreg : C.reg = reg116 := by rw [← hC]; rfl
  have hcall : C.call = callN (envG G) F (n+1) := by rw [← hC]; rfl
  have hcallP : C.callP = callP (envG G) F (n+1) := by rw [← hC]; rfl
  have hlv_1 : C.live 1 = [0] := by rw [← hC]; rfl
  have hlv_100001 : C.live 100001 = [0, 2, 3] := by rw [← hC]; rfl
  have hL := fun st h => loop_numof (G := G) hC rfl nl xs F st hf h
  have hs := strip_len xs
  unfold err numberOf
  clear hC
  simp [htt, hlin, hreg, reg116, hcall, hcallP, hlv_1, hlv_100001, ev_loop]
  rw [hL _ (by simp)]
  by_cases h1 : 64 < (strip xs).length
  · have e1 : (64 : Int) < ((strip xs).length : Int) := by omega
    simp [htt, hlin, hreg, reg116, hcall, hcallP, hlv_1, hlv_100001, h1, e1]
  · have e1 : ¬ (64 : Int) < ((strip xs).length : Int) := by omega
    cases hsx : strip xs with
    | nil => simp [htt, hlin, hreg, reg116, hcall, hcallP, hlv_1, hlv_100001, hsx]
    | cons b t =>
      have hnl : nl = false := by
        cases nl with
        | false => rfl
        | true => rw [hn rfl] at hsx; simp [strip] at hsx
      subst hnl
      rw [hsx] at h1 e1
      simp at h1 e1
      have e2 : ¬ ((t.length : Int) + 1 = 0) := by omega
      have e3 : ¬ (64 < t.length + 1) := by omega
      have e4 : t.length + 1 ≤ 140737488355328 := by omega
      have e5 : ¬ ((64 : Int) < (t.length : Int) + 1) := by omega
      have e6 : 1 + (t.length + 1) ≤ 140737488355328 := by omega
      have e7 : t.length ≤ 140737488355327 := by omega
      by_cases h2 : 128 ≤ b
      · simp [htt, hlin, hreg, reg116, hcall, hcallP, hlv_1, hlv_100001, hsx, h2, e2, e3, e4, e5, e6, e7]
      · simp [htt, hlin, hreg, reg116, hcall, hcallP, hlv_1, hlv_100001, hsx, h2, e2, e3, e4, e5, e6, e7, kc]
end Go.Proofs.YtjmcgdhekjkjfaaDoor
set_option linter.unusedSimpArgs false
set_option linter.unusedVariables false
namespace Go.Proofs.YtjmcgdhekjkjfaaDoor
open Go Go.VM
variable {G : GE}
set_option maxRecDepth 100000
set_option maxHeartbeats 4000000
def cutL (xs : List Int) : Nat → Nat
  | 0 => 0
  | i + 1 => match decide (xs.getD i 0 = 0) with
    | true => cutL xs i
    | false => i + 1
theorem cutL_le (xs : List Int) : ∀ i, cutL xs i ≤ i
  | 0 => Nat.le_refl _
  | i + 1 => by
    unfold cutL
    split
    · exact Nat.le_succ_of_le (cutL_le xs i)
    · exact Nat.le_refl _
def trimL (xs : List Int) : List Int := xs.take (cutL xs xs.length)
theorem loop_trim {m : Nat} {C : Ctx} {F : Nat} (hC : (envG G).ctx 86 (callN (envG G) F (m)) (callP (envG G) F (m)) = C) {c : Code} (hc : loopAt 2 Tryd.f86 = some c) (nl : Bool) (xs : List Int) (hx : xs.length ≤ 140737488355328) :
    ∀ (i k : Nat) (st : St), i ≤ xs.length → i < k → st.trim 0 [0, 3] = ⟨[(0, .d (.nums .u64 nl xs)), (3, .d (.int .i64 i))], [], []⟩ →
      iter (ev C F c) 0 [0, 3] [0, 2, 3] k st = some (.exit 0, ⟨[(0, .d (.nums .u64 nl xs)), (3, .d (.int .i64 (cutL xs i)))], [], []⟩) := by
  have htt : C.tt = (envG G).tt := by rw [← hC]; rfl
  have hlin : C.lin = [] := by rw [← hC]; rfl
  have hreg : C.reg = reg86 := by rw [← hC]; rfl
  have hcall : C.call = callN (envG G) F (m) := by rw [← hC]; rfl
  have hcallP : C.callP = callP (envG G) F (m) := by rw [← hC]; rfl
  have hlv_2 : C.live 2 = [0, 3] := by rw [← hC]; rfl
  have hlv_100002 : C.live 100002 = [0, 2, 3] := by rw [← hC]; rfl
  have hev : ∀ st, ev C F c st = ev C F ((loopAt 2 Tryd.f86).getD .skip) st := fun st => by rw [hc]; rfl
  intro i
  induction i with
  | zero =>
    intro k st hi hk hst
    obtain ⟨k, rfl⟩ : ∃ j, k = j + 1 := ⟨k - 1, by omega⟩
    rw [iter_eq, hst, hev]
    simp [loopAt, findLoop, Tryd.f86, htt, hlin, hreg, reg86, hcall, hcallP, hlv_2, hlv_100002, cutL]
  | succ i ih =>
    intro k st hi hk hst
    obtain ⟨k, rfl⟩ : ∃ j, k = j + 1 := ⟨k - 1, by omega⟩
    have e0 : (0 : Int) < (i : Int) + 1 := by omega
    have e1 : (i : Int) + 1 - 1 = i := by omega
    have e2 : i < xs.length := by omega
    have e3 : (-9223372036854775808 : Int) ≤ i := by omega
    have e4 : (i : Int) ≤ 9223372036854775807 := by omega
    rw [iter_eq, hst, hev]
    have ih' := fun st h => ih k st (by omega) (by omega) h
    by_cases h : xs[i] = 0
    · simp [loopAt, findLoop, Tryd.f86, htt, hlin, hreg, reg86, hcall, hcallP, hlv_2, hlv_100002, e0, e1, e2, e3, e4, cutL, h]
      exact ih' _ (by simp)
    · simp [loopAt, findLoop, Tryd.f86, htt, hlin, hreg, reg86, hcall, hcallP, hlv_2, hlv_100002, e0, e1, e2, e3, e4, cutL, h]
theorem t_Trim (F n : Nat) (nl : Bool) (xs : List Int) (hx : xs.length ≤ 140737488355328) (hf : xs.length < F) : callN (envG G) F (n+1) 86 [.d (.nums .u64 nl xs)] = some ⟨[.d (.nums .u64 nl (trimL xs))], []⟩ := by
  rw [callN_run (fn := Tryd.f86) rfl rfl rfl (by simp [Tryd.ntmps86])]
  generalize hC : (envG G).ctx 86 (callN (envG G) F (n)) (callP (envG G) F (n)) = C
  have htt : C.tt = (envG G).tt := by rw [← hC]; rfl
  have hlin : C.lin = [] := by rw [← hC]; rfl
  have hreg : C.reg = reg86 := by rw [← hC]; rfl
  have hcall : C.call = callN (envG G) F (n) := by rw [← hC]; rfl
  have hcallP : C.callP = callP (envG G) F (n) := by rw [← hC]; rfl
  have hlv_2 : C.live 2 = [0, 3] := by rw [← hC]; rfl
  have hlv_100002 : C.live 100002 = [0, 2, 3] := by rw [← hC]; rfl
  have hL := fun st h => loop_trim (G := G) hC rfl nl xs hx xs.length F st (Nat.le_refl _) hf h
  have h1 := cutL_le xs xs.length
  clear hC
  simp [htt, hlin, hreg, reg86, hcall, hcallP, hlv_2, hlv_100002, ev_loop]
  rw [hL _ (by simp)]
  have e1 : (cutL xs xs.length : Int) ≤ xs.length := by omega
  simp [htt, hlin, hreg, reg86, hcall, hcallP, hlv_2, hlv_100002, trimL, e1]
end Go.Proofs.YtjmcgdhekjkjfaaDoor
