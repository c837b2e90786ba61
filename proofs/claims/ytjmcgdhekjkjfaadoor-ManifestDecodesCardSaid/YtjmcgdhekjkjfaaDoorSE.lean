/- What prim.Small and the reference's Small hand back. -/
import Derived.Test.YtjmcgdhekjkjfaaDoorSD
import Derived.Test.YtjmcgdhekjkjfaaDoorVMR
set_option linter.unusedSimpArgs false
set_option linter.unusedVariables false
namespace Go.Proofs.YtjmcgdhekjkjfaaDoor
open Go Go.VM
variable {G : GE}
set_option maxRecDepth 100000
set_option maxHeartbeats 4000000

/-- The number that bytes are. -/
def val (v : Int) : List Int → Int
  | [] => v
  | x :: t => val (v * 256 + x) t

theorem loop_small {m : Nat} {C : Ctx} {F : Nat} (hC : (envG G).ctx 109 (callN (envG G) F (m)) (callP (envG G) F (m)) = C) {c : Code} (hc : loopAt 8 Tryd.f109 = some c) (nl : Bool) (ys : List Int) (hy : ys.length ≤ 4) :
    ∀ (rest : List Int) (i k : Nat) (v : Int) (st : St), ys.drop i = rest → i ≤ ys.length → (∀ x ∈ rest, 0 ≤ x ∧ x < 256) → 0 ≤ v → v < 256 ^ i → rest.length < k →
      st.trim 0 [6, 21, 22, 23] = ⟨[(6, .d (.int .i64 v)), (21, .d (.nums .u8 nl ys)), (22, .d (.int .i64 ys.length)), (23, .d (.int .i64 i))], [], []⟩ →
      iter (ev C F c) 0 [6, 21, 22, 23] [2, 3, 6] k st = some (.exit 0, ⟨[(6, .d (.int .i64 (val v rest)))], [], []⟩) := by
  have htt : C.tt = (envG G).tt := by rw [← hC]; rfl
  have hlin : C.lin = [] := by rw [← hC]; rfl
  have hreg : C.reg = reg109 := by rw [← hC]; rfl
  have hcall : C.call = callN (envG G) F (m) := by rw [← hC]; rfl
  have hcallP : C.callP = callP (envG G) F (m) := by rw [← hC]; rfl
  have hlv_8 : C.live 8 = [6, 21, 22, 23] := by rw [← hC]; rfl
  have hlv_100008 : C.live 100008 = [2, 3, 6] := by rw [← hC]; rfl
  have hev : ∀ st, ev C F c st = ev C F ((loopAt 8 Tryd.f109).getD .skip) st := fun st => by rw [hc]; rfl
  intro rest
  induction rest with
  | nil =>
    intro i k v st hd hi hb h0 hv hk hst
    obtain ⟨k, rfl⟩ : ∃ j, k = j + 1 := ⟨k - 1, by simp at hk; omega⟩
    have h0 : ys.length ≤ i := by simpa using hd
    have e0 : ¬ ((i : Int) < (ys.length : Int)) := by omega
    rw [iter_eq, hst, hev]
    simp [loopAt, findLoop, Tryd.f109, htt, hlin, hreg, reg109, hcall, hcallP, hlv_8, hlv_100008, e0, val]
  | cons b t ih =>
    intro i k v st hd hi hb h0 hv hk hst
    obtain ⟨k, rfl⟩ : ∃ j, k = j + 1 := ⟨k - 1, by simp at hk; omega⟩
    simp at hk
    have h1 : i < ys.length := by
      rcases Nat.lt_or_ge i ys.length with h | h
      · exact h
      · rw [List.drop_eq_nil_of_le h] at hd; cases hd
    have hbx : ys[i]? = some b := by
      have : (ys.drop i)[0]? = some b := by rw [hd]; rfl
      simpa using this
    have ht : ys.drop (i + 1) = t := by
      rw [← List.drop_drop, hd]; rfl
    obtain ⟨b0, b1⟩ := hb b (List.mem_cons_self ..)
    have hv2 : v < 256 ^ 3 := by
      have : (256 : Int) ^ i ≤ 256 ^ 3 := by
        have h3 : i ≤ 3 := by omega
        have := Nat.pow_le_pow_right (n := 256) (by omega) h3
        exact_mod_cast this
      omega
    have hv3 : v * 256 + b < 256 ^ (i + 1) := by
      rw [Int.pow_succ]; omega
    have e0 : (i : Int) < (ys.length : Int) := by omega
    have e1 : (i : Int) + 1 ≤ 9223372036854775807 := by omega
    have e2 : (-9223372036854775808 : Int) ≤ (i : Int) + 1 := by omega
    have e3 : (-9223372036854775808 : Int) ≤ v * 256 := by omega
    have e4 : v * 256 ≤ (9223372036854775807 : Int) := by omega
    have e5 : (-9223372036854775808 : Int) ≤ b := by omega
    have e6 : b ≤ (9223372036854775807 : Int) := by omega
    have ho := or_byte (v := v) (x := b) h0 (by omega) b0 b1
    rw [iter_eq, hst, hev]
    have ih' := fun st h => ih (i + 1) k (v * 256 + b) st ht (by omega) (fun x hx => hb x (List.mem_cons_of_mem _ hx)) (by omega) hv3 hk h
    simp [loopAt, findLoop, Tryd.f109, htt, hlin, hreg, reg109, hcall, hcallP, hlv_8, hlv_100008, e0, hbx, e1, e2, e3, e4, e5, e6, ho, val]
    simp at ih'
    exact ih' _ (by simp)

/-- The small number of a body, or what is amiss. -/
def small (xs : List Int) : Sum Int Int :=
  match numB xs with
  | .inl e => .inl e
  | .inr ys => if 4 < ys.length then .inl 3 else if 2147483647 < val 0 ys then .inl 3 else .inr (val 0 ys)

theorem numB_mem {xs ys : List Int} (h : numB xs = .inr ys) : ∀ x ∈ ys, x ∈ xs := by
  unfold numB at h
  repeat' split at h
  all_goals first | (cases h; done) | skip
  all_goals (cases h; intro x hx; simp_all)
theorem numB_bytes {xs ys : List Int} (h : numB xs = .inr ys) (hb : ∀ x ∈ xs, 0 ≤ x ∧ x < 256) : ∀ x ∈ ys, 0 ≤ x ∧ x < 256 :=
  fun x hx => hb x (numB_mem h x hx)

theorem numB_err {xs : List Int} {e : Int} (h : numB xs = .inl e) : e = 7 ∨ e = 2 := by
  unfold numB at h
  repeat' split at h
  all_goals first | (cases h; simp; done) | (cases h; done)

theorem t_Small (F n : Nat) (hF : 100 ≤ F) (nl : Bool) (xs : List Int) (hn : nl = true → xs = []) (hx : xs.length ≤ 140737488355328) (hb : ∀ x ∈ xs, 0 ≤ x ∧ x < 256) : callN (envG G) F (n+3) 109 [.d (.nums .u8 nl xs)] = some (match small xs with
    | .inl e => ⟨[.d (.int .i64 0), .d (err e)], []⟩
    | .inr v => ⟨[.d (.int .i64 v), .d .nilifc], []⟩) := by
  rw [callN_run (fn := Tryd.f109) rfl rfl rfl (by simp [Tryd.ntmps109])]
  generalize hC : (envG G).ctx 109 (callN (envG G) F (n+2)) (callP (envG G) F (n+2)) = C
  have htt : C.tt = (envG G).tt := by rw [← hC]; rfl
  have hlin : C.lin = [] := by rw [← hC]; rfl
  have hreg : C.reg = reg109 := by rw [← hC]; rfl
  have hcall : C.call = callN (envG G) F (n+2) := by rw [← hC]; rfl
  have hcallP : C.callP = callP (envG G) F (n+2) := by rw [← hC]; rfl
  have hlv_8 : C.live 8 = [6, 21, 22, 23] := by rw [← hC]; rfl
  have hlv_100008 : C.live 100008 = [2, 3, 6] := by rw [← hC]; rfl
  have a1 := t_Number (G := G) F n nl xs hn hx
  unfold small
  cases hnum : numB xs with
  | inl e =>
    rw [hnum] at a1
    unfold err at a1
    simp [htt, hlin, hreg, reg109, hcall, hcallP, hlv_8, hlv_100008, a1, err]
  | inr ys =>
    rw [hnum] at a1
    by_cases h4 : 4 < ys.length
    · have e4 : (4 : Int) < (ys.length : Int) := by omega
      simp [htt, hlin, hreg, reg109, hcall, hcallP, hlv_8, hlv_100008, a1, err, h4, e4]
    · have e4 : ¬ (4 : Int) < (ys.length : Int) := by omega
      have hL := fun st h => loop_small (G := G) hC rfl false ys (by omega) ys 0 F 0 st rfl (by omega) (numB_bytes hnum hb) (by omega) (by simp) (by omega) h
      by_cases hv : 2147483647 < val 0 ys
      · simp [htt, hlin, hreg, reg109, hcall, hcallP, hlv_8, hlv_100008, a1, err, h4, e4, ev_loop, hL, hv]
      · simp [htt, hlin, hreg, reg109, hcall, hcallP, hlv_8, hlv_100008, a1, err, h4, e4, ev_loop, hL, hv]

/-- The number that bytes are, up to where it is too great. -/
def valR (v : Int) : List Int → Int × Bool
  | [] => (v, false)
  | x :: t => if 2147483647 < 256 * v + x then (256 * v + x, true) else valR (256 * v + x) t

theorem val_ge : ∀ (t : List Int) (v : Int), 0 ≤ v → (∀ x ∈ t, 0 ≤ x ∧ x < 256) → v ≤ val v t
  | [], v, _, _ => by simp [val]
  | x :: t, v, h0, hb => by
    have := hb x (List.mem_cons_self ..)
    have := val_ge t (v * 256 + x) (by omega) (fun y hy => hb y (List.mem_cons_of_mem _ hy))
    simp only [val]; omega
theorem val_big : ∀ (t : List Int) (v : Int), 0 ≤ v → (∀ x ∈ t, 0 ≤ x ∧ x < 256) → v * 256 ^ t.length ≤ val v t
  | [], v, _, _ => by simp [val]
  | x :: t, v, h0, hb => by
    have h1 := hb x (List.mem_cons_self ..)
    have h2 := val_big t (v * 256 + x) (by omega) (fun y hy => hb y (List.mem_cons_of_mem _ hy))
    simp only [val, List.length_cons, Int.pow_succ]
    have h3 : 0 ≤ x * 256 ^ t.length := Int.mul_nonneg h1.1 (Int.pow_nonneg (by omega))
    have h4 : (v * 256 + x) * 256 ^ t.length = v * (256 ^ t.length * 256) + x * 256 ^ t.length := by
      rw [Int.add_mul, Int.mul_assoc, Int.mul_comm 256]
    omega
theorem valR_no : ∀ (t : List Int) (v : Int), v ≤ 2147483647 → (valR v t).2 = false → (valR v t).1 = val v t ∧ val v t ≤ 2147483647
  | [], v, hv, _ => by simp [valR, val]; exact hv
  | x :: t, v, hv, h => by
    unfold valR at h ⊢
    simp only [val]
    split at h
    · cases h
    · rename_i hx
      rw [if_neg hx]
      have e : v * 256 + x = 256 * v + x := by omega
      rw [e]
      exact valR_no t _ (by omega) h
theorem valR_yes : ∀ (t : List Int) (v : Int), 0 ≤ v → (∀ x ∈ t, 0 ≤ x ∧ x < 256) → (valR v t).2 = true → 2147483647 < val v t
  | [], v, _, _, h => by simp [valR] at h
  | x :: t, v, h0, hb, h => by
    have h1 := hb x (List.mem_cons_self ..)
    have hb' : ∀ y ∈ t, 0 ≤ y ∧ y < 256 := fun y hy => hb y (List.mem_cons_of_mem _ hy)
    have e : v * 256 + x = 256 * v + x := by omega
    unfold valR at h
    simp only [val]
    rw [e]
    split at h
    · have := val_ge t (256 * v + x) (by omega) hb'
      omega
    · exact valR_yes t _ (by omega) hb' h

theorem numB_first {xs ys : List Int} (h : numB xs = .inr ys) : ∀ b t, ys = b :: t → b ≠ 0 := by
  unfold numB at h
  repeat' split at h
  all_goals first | (cases h; done) | skip
  all_goals (cases h; intro b t e; simp_all)
  all_goals omega

theorem loop_rsmall {m : Nat} {C : Ctx} {F : Nat} (hC : (envG G).ctx 110 (callN (envG G) F (m)) (callP (envG G) F (m)) = C) {c : Code} (hc : loopAt 6 Tryd.f110 = some c) (nl : Bool) (ys : List Int) (hy : ys.length ≤ 140737488355328) (os : List Pl) (hos : os = [] ∨ os = [.t 4]) :
    ∀ (rest : List Int) (i k : Nat) (v : Int) (st : St), ys.drop i = rest → i ≤ ys.length → (∀ x ∈ rest, 0 ≤ x ∧ x < 256) → 0 ≤ v → v ≤ 2147483647 → rest.length < k →
      st.trim 0 [4, 6, 7] = ⟨[(4, .d (.nums .u8 nl ys)), (6, .d (.int .i64 v)), (7, .d (.int .i64 i))], [], os⟩ →
      iter (ev C F c) 0 [4, 6, 7] [2, 3, 6] k st = some (if (valR v rest).2 = true then (.ret, ⟨[(2, .d (.int .i64 0)), (3, .d (.int .i64 3))], [], []⟩)
        else (.exit 0, ⟨[(6, .d (.int .i64 (valR v rest).1))], [], []⟩)) := by
  have htt : C.tt = (envG G).tt := by rw [← hC]; rfl
  have hlin : C.lin = [] := by rw [← hC]; rfl
  have hreg : C.reg = reg110 := by rw [← hC]; rfl
  have hcall : C.call = callN (envG G) F (m) := by rw [← hC]; rfl
  have hcallP : C.callP = callP (envG G) F (m) := by rw [← hC]; rfl
  have hlv_6 : C.live 6 = [4, 6, 7] := by rw [← hC]; rfl
  have hlv_100006 : C.live 100006 = [2, 3, 6] := by rw [← hC]; rfl
  have hev : ∀ st, ev C F c st = ev C F ((loopAt 6 Tryd.f110).getD .skip) st := fun st => by rw [hc]; rfl
  rcases hos with rfl | rfl
  all_goals (
  intro rest
  induction rest with
  | nil =>
    intro i k v st hd hi hb h0 hv hk hst
    obtain ⟨k, rfl⟩ : ∃ j, k = j + 1 := ⟨k - 1, by simp at hk; omega⟩
    have h0 : ys.length ≤ i := by simpa using hd
    have e0 : ¬ ((i : Int) < (ys.length : Int)) := by omega
    rw [iter_eq, hst, hev]
    simp [loopAt, findLoop, Tryd.f110, htt, hlin, hreg, reg110, hcall, hcallP, hlv_6, hlv_100006, e0, valR]
  | cons b t ih =>
    intro i k v st hd hi hb h0 hv hk hst
    obtain ⟨k, rfl⟩ : ∃ j, k = j + 1 := ⟨k - 1, by simp at hk; omega⟩
    simp at hk
    have h1 : i < ys.length := by
      rcases Nat.lt_or_ge i ys.length with h | h
      · exact h
      · rw [List.drop_eq_nil_of_le h] at hd; cases hd
    have hbx : ys[i]? = some b := by
      have : (ys.drop i)[0]? = some b := by rw [hd]; rfl
      simpa using this
    have ht : ys.drop (i + 1) = t := by
      rw [← List.drop_drop, hd]; rfl
    obtain ⟨b0, b1⟩ := hb b (List.mem_cons_self ..)
    have e0 : (i : Int) < (ys.length : Int) := by omega
    have e1 : (i : Int) + 1 ≤ 9223372036854775807 := by omega
    have e2 : (-9223372036854775808 : Int) ≤ (i : Int) + 1 := by omega
    have e3 : (-9223372036854775808 : Int) ≤ 256 * v := by omega
    have e4 : 256 * v ≤ (9223372036854775807 : Int) := by omega
    have e5 : (-9223372036854775808 : Int) ≤ b := by omega
    have e6 : b ≤ (9223372036854775807 : Int) := by omega
    have e7 : (-9223372036854775808 : Int) ≤ 256 * v + b := by omega
    have e8 : 256 * v + b ≤ (9223372036854775807 : Int) := by omega
    rw [iter_eq, hst, hev]
    by_cases hg : 2147483647 < 256 * v + b
    · simp [loopAt, findLoop, Tryd.f110, htt, hlin, hreg, reg110, hcall, hcallP, hlv_6, hlv_100006, e0, hbx, e1, e2, e3, e4, e5, e6, e7, e8, hg, valR]
    · have ih' := fun st h => ih (i + 1) k (256 * v + b) st ht (by omega) (fun x hx => hb x (List.mem_cons_of_mem _ hx)) (by omega) (by omega) hk h
      simp [loopAt, findLoop, Tryd.f110, htt, hlin, hreg, reg110, hcall, hcallP, hlv_6, hlv_100006, e0, hbx, e1, e2, e3, e4, e5, e6, e7, e8, hg, valR]
      simp at ih'
      exact ih' _ (by simp))

theorem numB_len {xs ys : List Int} (h : numB xs = .inr ys) : ys.length ≤ 64 := by
  unfold numB at h
  repeat' split at h
  all_goals first | (cases h; done) | skip
  all_goals (cases h; simp_all)
  all_goals omega

theorem t_rSmall (F n : Nat) (hF : 100 ≤ F) (nl : Bool) (xs : List Int) (hn : nl = true → xs = []) (hx : xs.length ≤ 140737488355327) (hb : ∀ x ∈ xs, 0 ≤ x ∧ x < 256) : callN (envG G) F (n+2) 110 [.d (.nums .u8 nl xs)] = some (match small xs with
    | .inl e => ⟨[.d (.int .i64 0), .d (.int .i64 e)], []⟩
    | .inr v => ⟨[.d (.int .i64 v), .d (.int .i64 0)], []⟩) := by
  rw [callN_run (fn := Tryd.f110) rfl rfl rfl (by simp [Tryd.ntmps110])]
  generalize hC : (envG G).ctx 110 (callN (envG G) F (n+1)) (callP (envG G) F (n+1)) = C
  have htt : C.tt = (envG G).tt := by rw [← hC]; rfl
  have hlin : C.lin = [] := by rw [← hC]; rfl
  have hreg : C.reg = reg110 := by rw [← hC]; rfl
  have hcall : C.call = callN (envG G) F (n+1) := by rw [← hC]; rfl
  have hcallP : C.callP = callP (envG G) F (n+1) := by rw [← hC]; rfl
  have hlv_6 : C.live 6 = [4, 6, 7] := by rw [← hC]; rfl
  have hlv_100006 : C.live 100006 = [2, 3, 6] := by rw [← hC]; rfl
  obtain ⟨o, os, ho, a1⟩ : ∃ (o : List Nat) (os : List Pl), (o = [] ∧ os = [] ∨ o = [0] ∧ os = [.t 4]) ∧ callN (envG G) F (n+1) 85 [.d (.nums .u8 nl xs)] = some (match numB xs with
    | .inl e => ⟨[.d (.nums .u8 true []), .d (.int .i64 e)], [0]⟩
    | .inr ys => ⟨[.d (.nums .u8 false ys), .d (.int .i64 0)], o⟩) := ⟨_, if xs.head? = some 0 then [] else [.t 4], by split <;> simp, t_rNumber (G := G) F n nl xs hn hx⟩
  rcases ho with ⟨rfl, hos⟩ | ⟨rfl, hos⟩
  all_goals (
      unfold small
      cases hnum : numB xs with
      | inl e =>
        rw [hnum] at a1
        rcases numB_err hnum with rfl | rfl <;> simp [htt, hlin, hreg, reg110, hcall, hcallP, hlv_6, hlv_100006, a1]
      | inr ys =>
        rw [hnum] at a1
        have hlen := numB_len hnum
        have hyb := numB_bytes hnum hb
        have hL := fun os hos st h => loop_rsmall (G := G) hC rfl false ys (by omega) os hos ys 0 F 0 st rfl (by omega) hyb (by omega) (by omega) (by omega) h
        cases hv : (valR 0 ys).2 with
        | true =>
          have h1 := valR_yes ys 0 (by omega) hyb hv
          have h2 : (if 4 < ys.length then (.inl 3 : Sum Int Int) else if 2147483647 < val 0 ys then .inl 3 else .inr (val 0 ys)) = .inl 3 := by
            rw [if_pos h1]
            split <;> rfl
          simp only [h2]
          simp [htt, hlin, hreg, reg110, hcall, hcallP, hlv_6, hlv_100006, a1, ev_loop]
          rw [hL os (by simp [hos]) _ (by simp [hos])]
          simp [htt, hlin, hreg, reg110, hcall, hcallP, hlv_6, hlv_100006, hv]
        | false =>
          obtain ⟨h1, h2⟩ := valR_no ys 0 (by omega) hv
          have h4 : ¬ 4 < ys.length := by
            intro h4
            cases hys : ys with
            | nil => rw [hys] at h4; simp at h4
            | cons b t =>
              have hb0 := numB_first hnum b t hys
              obtain ⟨b1, b2⟩ := hyb b (by rw [hys]; exact List.mem_cons_self ..)
              have h5 := val_big t b b1 (fun x hx => hyb x (by rw [hys]; exact List.mem_cons_of_mem _ hx))
              rw [hys] at h2 h4
              simp [val] at h2 h4
              have h6 : (256 : Int) ^ 4 ≤ 256 ^ t.length := by
                have := Nat.pow_le_pow_right (n := 256) (by omega) (show 4 ≤ t.length by omega)
                exact_mod_cast this
              have h7 : 1 * 256 ^ t.length ≤ b * 256 ^ t.length := Int.mul_le_mul_of_nonneg_right (by omega) (by omega)
              omega
          have h3 : ¬ 2147483647 < val 0 ys := by omega
          simp [htt, hlin, hreg, reg110, hcall, hcallP, hlv_6, hlv_100006, a1, ev_loop]
          rw [hL os (by simp [hos]) _ (by simp [hos])]
          simp [htt, hlin, hreg, reg110, hcall, hcallP, hlv_6, hlv_100006, hv, h1, h4, h3])
end Go.Proofs.YtjmcgdhekjkjfaaDoor

/- What der's reader.element hands back. -/
set_option linter.unusedSimpArgs false
set_option linter.unusedVariables false
namespace Go.Proofs.YtjmcgdhekjkjfaaDoor
open Go Go.VM
variable {G : GE}
set_option maxRecDepth 100000
set_option maxHeartbeats 4000000

theorem t_delem (F : Nat) (hF : 1048580 < F) (b : List Int) (nl : Bool) (hnl : nl = true → b = []) (hb : ∀ c ∈ b, 0 ≤ c ∧ c < 256) (hlen : b.length ≤ 1048576) :
    ∀ (d e n i stop : Nat), d + e = 16 → stop ≤ b.length → i ≤ stop →
    callN (envG G) F (n + d + 3) 56 [.d (.agg [.nums .u8 nl b]), .d (.int .i64 i), .d (.int .i64 stop), .d (.int .i64 e)] = some ⟨elemV (elemB b d i stop), []⟩ := by
  intro d
  induction d with
  | zero =>
    intro e n i stop he hs hi
    have ks := fun c p => t_spot (G := G) F (n + 1) c p
    rw [callN_run (fn := Tryd.f56) rfl rfl rfl (by simp [Tryd.ntmps56])]
    generalize hC : (envG G).ctx 56 (callN (envG G) F (n+2)) (callP (envG G) F (n+2)) = C
    have htt : C.tt = (envG G).tt := by rw [← hC]; rfl
    have hlin : C.lin = [104, 75, 74, 17, 13, 14, 117, 108, 91, 79, 44, 32, 24, 10, 9, 110] := by rw [← hC]; rfl
    have hreg : C.reg = reg56 := by rw [← hC]; rfl
    have hcall : C.call = callN (envG G) F (n+2) := by rw [← hC]; rfl
    have hcallP : C.callP = callP (envG G) F (n+2) := by rw [← hC]; rfl
    have hlv_14 : C.live 14 = [3, 4, 8, 11, 12, 13] := by rw [← hC]; rfl
    have hlv_100014 : C.live 100014 = [8, 9, 10, 11, 13] := by rw [← hC]; rfl
    have hlv_200007 : C.live 200007 = [] := by rw [← hC]; rfl
    unfold spotD err at ks
    have h1 : (16 : Int) ≤ (e : Int) := by omega
    simp only [elemB, elemV, spotD, err, zeroT, Tlv.cells, Tlv.cellsL]
    simp [htt, hlin, hreg, reg56, hcall, hcallP, hlv_14, hlv_100014, hlv_200007, ks, h1]
  | succ d ih =>
    intro e n i stop he hs hi
    have ks : ∀ c p, callN (envG G) F (n + d + 3) _ _ = _ := fun c p => t_spot (G := G) F (n + d + 2) c p
    have kl : callN (envG G) F (n + d + 3) _ _ = _ := t_dlength (G := G) F (n + d + 1) (by omega) b nl hb hlen (i + 1) stop hs (by omega)
    rw [show ((i + 1 : Nat) : Int) = (i : Int) + 1 by omega] at kl
    have kc : ∀ xs h, callN (envG G) F (n + d + 3) _ _ = _ := fun xs h => t_clone (G := G) F (n + d + 2) xs h
    have g0 := byteAt_ok hb i
    rw [show n + (d + 1) + 3 = n + d + 3 + 1 by omega]
    rw [callN_run (fn := Tryd.f56) rfl rfl rfl (by simp [Tryd.ntmps56])]
    generalize hC : (envG G).ctx 56 (callN (envG G) F (n+d+3)) (callP (envG G) F (n+d+3)) = C
    have htt : C.tt = (envG G).tt := by rw [← hC]; rfl
    have hlin : C.lin = [104, 75, 74, 17, 13, 14, 117, 108, 91, 79, 44, 32, 24, 10, 9, 110] := by rw [← hC]; rfl
    have hreg : C.reg = reg56 := by rw [← hC]; rfl
    have hcall : C.call = callN (envG G) F (n+d+3) := by rw [← hC]; rfl
    have hcallP : C.callP = callP (envG G) F (n+d+3) := by rw [← hC]; rfl
    have hlv_14 : C.live 14 = [3, 4, 8, 11, 12, 13] := by rw [← hC]; rfl
    have hlv_100014 : C.live 100014 = [8, 9, 10, 11, 13] := by rw [← hC]; rfl
    have hlv_200007 : C.live 200007 = [] := by rw [← hC]; rfl
    unfold spotD err at ks
    have h1 : ¬ (16 : Int) ≤ (e : Int) := by omega
    have e1 : (i : Int) + 1 ≤ 9223372036854775807 := by omega
    have e2 : (-9223372036854775808 : Int) ≤ (i : Int) + 1 := by omega
    simp only [elemB]
    by_cases c1 : stop ≤ i
    · have f1 : (stop : Int) ≤ (i : Int) := by omega
      rw [if_pos c1]
      simp only [elemV, spotD, err, zeroT, Tlv.cells, Tlv.cellsL]
      simp [htt, hlin, hreg, reg56, hcall, hcallP, hlv_14, hlv_100014, hlv_200007, ks, h1, f1]
    · have f1 : ¬ (stop : Int) ≤ (i : Int) := by omega
      have r0 := byteAt_get (b := b) (i := i) (by omega)
      have hnf : nl = false := by
        cases nl with
        | false => rfl
        | true => rw [hnl rfl] at hs; simp at hs; omega
      have a1 := and31 g0
      have a2 := and32 g0
      rw [if_neg c1]
      by_cases c2 : byteAt b i % 32 = 31
      · rw [if_pos c2]
        rw [c2] at a1
        simp only [elemV, spotD, err, zeroT, Tlv.cells, Tlv.cellsL]
        simp [htt, hlin, hreg, reg56, hcall, hcallP, hlv_14, hlv_100014, hlv_200007, ks, h1, f1, r0, a1]
      · rw [if_neg c2]
        have a3 : (byteAt b i).fdiv (2 ^ 6) = byteAt b i / 64 := Int.fdiv_eq_ediv_of_nonneg _ (by omega)
        simp at a3
        have e3 : byteAt b i / 64 ≤ 255 := by omega
        have e4 : 0 ≤ byteAt b i / 64 := by omega
        have e5 : byteAt b i / 64 ≤ 9223372036854775807 := by omega
        have e6 : (-9223372036854775808 : Int) ≤ byteAt b i / 64 := by omega
        have e7 : byteAt b i % 32 ≤ 9223372036854775807 := by omega
        have e8 : (-9223372036854775808 : Int) ≤ byteAt b i % 32 := by omega
        generalize hsp : spanB b (i + 1) stop = sp at *
        cases sp with
        | bad c p =>
          simp only [spanV, spotD, err] at kl
          simp only [elemV, spotD, err, zeroT, Tlv.cells, Tlv.cellsL]
          simp [htt, hlin, hreg, reg56, hcall, hcallP, hlv_14, hlv_100014, hlv_200007, ks, h1, f1, r0, a1, a3, c2, e1, e2, e3, e4, e5, e6, e7, e8, kl]
        | ok ft =>
          obtain ⟨fr, to⟩ := ft
          have hp := spanB_ok hb hs hsp
          simp only [spanV] at kl ⊢
          by_cases c3 : byteAt b i / 32 % 2 = 1
          case neg =>
            have a4 := a2.2 c3
            rw [if_neg c3]
            have f2 : (fr : Int) ≤ (to : Int) := by omega
            have f3 : (to : Int) ≤ b.length := by omega
            have hll : ((b.take to).drop fr).length ≤ 140737488355328 := by simp; omega
            have hdt : (b.take to).drop fr = (b.drop fr).take (to - fr) := by rw [List.drop_take]
            rw [← hdt]
            have kc' := kc _ hll
            generalize hus : (b.take to).drop fr = us at *
            subst hnf
            simp only [elemV, Tlv.cells, Tlv.cellsL]
            simp [htt, hlin, hreg, reg56, hcall, hcallP, hlv_14, hlv_100014, hlv_200007, ks, h1, f1, f2, f3, r0, a1, a3, a4, c2, e1, e2, e3, e4, e5, e6, e7, e8, kl, kc', hus]
          case pos =>
            have a4 : ¬ andI .u8 (byteAt b i) 32 = 0 := fun h => a2.1 h c3
            rw [if_pos c3]
            have hL := fun st h => loop_elem (G := G) hC rfl b nl e to (by omega) (by omega) (elemB b d) (fun fr hfr => by
                have := ih (e + 1) n fr to (by omega) (by omega) hfr
                simpa using this)
              (fun fr x nx h => by have := elemB_ok hb d fr to x nx (by omega) h; exact ⟨by have := this.lo; omega, this.hi⟩)
              (.int .i64 (byteAt b i / 64)) (.int .i64 (byteAt b i % 32)) (.bool true) (.nums .u8 true []) (to - fr) fr F [] st (by omega) (by omega) (by omega) (by simp; omega) h
            generalize kidsB (elemB b d) (to - fr) fr to = kr at *
            clear hC ih
            cases kr with
            | ok l =>
              simp at hL
              simp only [elemV, Tlv.cells]
              simp [htt, hlin, hreg, reg56, hcall, hcallP, hlv_14, hlv_100014, hlv_200007, ks, h1, f1, r0, a1, a3, a4, c2, e1, e2, e3, e4, e5, e6, e7, e8, kl, ev_loop]
              rw [hL _ (by simp [Tlv.cellsL])]
              simp [htt, hlin, hreg, reg56, hcall, hcallP, hlv_14, hlv_100014, hlv_200007]
            | bad c p =>
              have hL2 := fun st h => Classical.choose_spec (hL st h)
              simp at hL2
              simp only [elemV, spotD, err, zeroT, Tlv.cells, Tlv.cellsL] at hL2 ⊢
              simp [htt, hlin, hreg, reg56, hcall, hcallP, hlv_14, hlv_100014, hlv_200007, ks, h1, f1, r0, a1, a3, a4, c2, e1, e2, e3, e4, e5, e6, e7, e8, kl, ev_loop]
              rw [(hL2 _ (by simp [Tlv.cellsL])).1]
              simp [htt, hlin, hreg, reg56, hcall, hcallP, hlv_14, hlv_100014, hlv_200007]
              exact (hL2 _ (by simp [Tlv.cellsL])).2
end Go.Proofs.YtjmcgdhekjkjfaaDoor

/- What der.Parse hands back. -/
set_option linter.unusedSimpArgs false
set_option linter.unusedVariables false
namespace Go.Proofs.YtjmcgdhekjkjfaaDoor
open Go Go.VM
variable {G : GE}
set_option maxRecDepth 100000
set_option maxHeartbeats 4000000

/-- The error of what is amiss; a place below 0: it has none. -/
def atD (c p : Int) : D := if p < 0 then err c else spotD c p
def parseV : Res Tlv → List V
  | .ok x => [.d (.agg x.cells), .d .nilifc]
  | .bad c p => [.d (.agg zeroT.cells), .d (atD c p)]

theorem elemB_place : ∀ {b : List Int} {d i stop : Nat} {c p : Int}, elemB b d i stop = .bad c p → 0 ≤ p ∧ 1 ≤ c ∧ c ≤ 9 := by
  have hlen : ∀ {b : List Int} {i stop : Nat} {c p : Int}, lenB b i stop = .bad c p → 0 ≤ p ∧ 1 ≤ c ∧ c ≤ 9 := by
    intro b i stop c p h
    unfold lenB at h
    repeat' (split at h)
    all_goals (first | (injection h with h1 h2; omega) | cases h)
  have hsp : ∀ {b : List Int} {i stop : Nat} {c p : Int}, spanB b i stop = .bad c p → 0 ≤ p ∧ 1 ≤ c ∧ c ≤ 9 := by
    intro b i stop c p h
    unfold spanB at h
    split at h
    · rename_i hl; injection h with h1 h2; subst h1; subst h2; exact hlen hl
    · split at h
      · injection h with h1 h2; omega
      · cases h
  have hk : ∀ (g : Nat → Nat → Res (Tlv × Nat)), (∀ i t c p, g i t = .bad c p → 0 ≤ p ∧ 1 ≤ c ∧ c ≤ 9) → ∀ (k fr to : Nat) (c p : Int), kidsB g k fr to = .bad c p → 0 ≤ p ∧ 1 ≤ c ∧ c ≤ 9 := by
    intro g hg k
    induction k with
    | zero => intro fr to c p h; cases h
    | succ k ih =>
      intro fr to c p h
      simp only [kidsB] at h
      split at h
      · split at h
        · rename_i h1; injection h with h2 h3; subst h2; subst h3; exact hg _ _ _ _ h1
        · split at h
          · rename_i h1; injection h with h2 h3; subst h2; subst h3; exact ih _ _ _ _ h1
          · cases h
      · cases h
  intro b d
  induction d with
  | zero => intro i stop c p h; simp only [elemB] at h; injection h with h1 h2; omega
  | succ d ih =>
    intro i stop c p h
    simp only [elemB] at h
    split at h
    · injection h with h1 h2; omega
    split at h
    · injection h with h1 h2; omega
    split at h
    · rename_i h1; injection h with h2 h3; subst h2; subst h3; exact hsp h1
    split at h
    · split at h
      · rename_i h1; injection h with h2 h3; subst h2; subst h3; exact hk _ (fun i t c p h => ih h) _ _ _ _ _ h1
      · cases h
    · cases h

theorem t_Parse (F : Nat) (hF : 1048580 < F) (n : Nat) (b : List Int) (nl : Bool) (hnl : nl = true → b = []) (hb : ∀ c ∈ b, 0 ≤ c ∧ c < 256) :
    callN (envG G) F (n + 20) 12 [.d (.nums .u8 nl b)] = some ⟨parseV (parseB b), []⟩ := by
  have ks : ∀ c p, callN (envG G) F (n + 19) _ _ = _ := fun c p => t_spot (G := G) F (n + 18) c p
  have ke : b.length ≤ 1048576 → callN (envG G) F (n + 19) _ _ = _ := fun h => t_delem (G := G) F hF b nl hnl hb h 16 0 n 0 b.length (by omega) (by omega) (by omega)
  have kp := @elemB_place b 16 0 b.length
  have ko := fun x e => elemB_ok hb 16 0 b.length x e (Nat.le_refl _)
  rw [callN_run (fn := Tryd.f12) rfl rfl rfl (by simp [Tryd.ntmps12])]
  generalize hC : (envG G).ctx 12 (callN (envG G) F (n+19)) (callP (envG G) F (n+19)) = C
  have htt : C.tt = (envG G).tt := by rw [← hC]; rfl
  have hlin : C.lin = [] := by rw [← hC]; rfl
  have hreg : C.reg = reg12 := by rw [← hC]; rfl
  have hcall : C.call = callN (envG G) F (n+19) := by rw [← hC]; rfl
  have hcallP : C.callP = callP (envG G) F (n+19) := by rw [← hC]; rfl
  unfold parseB
  by_cases c1 : 1048576 < b.length
  · have f1 : (1048576 : Int) < b.length := by omega
    simp only [if_pos c1, parseV, atD, err, zeroT, Tlv.cells, Tlv.cellsL]
    simp [htt, hlin, hreg, reg12, hcall, hcallP, f1]
  · have f1 : ¬ (1048576 : Int) < b.length := by omega
    have ke' := ke (by omega)
    clear ke
    rw [if_neg c1]
    generalize elemB b 16 0 b.length = r at *
    cases r with
    | bad c p =>
      have hp := kp rfl
      simp only [elemV, spotD, err, zeroT, Tlv.cells, Tlv.cellsL] at ke'
      simp at ke'
      simp only [parseV, atD, if_neg (by omega : ¬ p < 0), spotD, err, zeroT, Tlv.cells, Tlv.cellsL]
      simp [htt, hlin, hreg, reg12, hcall, hcallP, f1, ke']
    | ok r =>
      obtain ⟨x, e⟩ := r
      have hx := ko x e rfl
      have hh := hx.hi
      clear ko kp hx
      obtain ⟨xc, xt, xm, xbn, xb, xkn, xks⟩ := x
      simp only [elemV, Tlv.cells] at ke'
      simp at ke'
      unfold spotD err at ks
      by_cases c2 : e < b.length
      · have f2 : (e : Int) < b.length := by omega
        simp only [if_pos c2, parseV, atD, spotD, err, zeroT, Tlv.cells, Tlv.cellsL, if_neg (by omega : ¬ (e : Int) < 0)]
        simp [htt, hlin, hreg, reg12, hcall, hcallP, f1, ke', f2, ks]
      · have f2 : ¬ (e : Int) < b.length := by omega
        simp only [if_neg c2, parseV, Tlv.cells]
        simp [htt, hlin, hreg, reg12, hcall, hcallP, f1, ke', f2, ks]
end Go.Proofs.YtjmcgdhekjkjfaaDoor

/- What the law's Code hands back. -/
set_option linter.unusedSimpArgs false
set_option linter.unusedVariables false
namespace Go.Proofs.YtjmcgdhekjkjfaaDoor
open Go Go.VM
variable {G : GE}
set_option maxRecDepth 100000
set_option maxHeartbeats 4000000

theorem loop_code {m : Nat} {C : Ctx} {F : Nat} (hC : (envG G).ctx 15 (callN (envG G) F (m)) (callP (envG G) F (m)) = C) {c : Code} (hc : loopAt 4 Tryd.f15 = some c) (q : Int) : ∀ (u : Nat) (i : Int) (k : Nat) (st : St), i + u = 22 → 1 ≤ i → u < k →
    st.trim 0 [0, 3] = ⟨[(0, .d (err q)), (3, .d (.int .i64 i))], [], []⟩ →
    iter (ev C F c) 0 [0, 3] [2] k st = if i ≤ q ∧ q ≤ 21 then some (.ret, ⟨[(2, .d (.int .i64 q))], [], []⟩) else some (.exit 0, ⟨[], [], []⟩) := by
  have htt : C.tt = (envG G).tt := by rw [← hC]; rfl
  have hlin : C.lin = [] := by rw [← hC]; rfl
  have hreg : C.reg = reg15 := by rw [← hC]; rfl
  have hcall : C.call = callN (envG G) F (m) := by rw [← hC]; rfl
  have hcallP : C.callP = callP (envG G) F (m) := by rw [← hC]; rfl
  have hlv_4 : C.live 4 = [0, 3] := by rw [← hC]; rfl
  have hlv_100004 : C.live 100004 = [2] := by rw [← hC]; rfl
  have hev : ∀ st, ev C F c st = ev C F ((loopAt 4 Tryd.f15).getD .skip) st := fun st => by rw [hc]; rfl
  unfold err
  intro u
  induction u with
  | zero =>
    intro i k st hu h1 hk hst
    obtain ⟨k, rfl⟩ : ∃ j, k = j + 1 := ⟨k - 1, by omega⟩
    have hc : i = 22 := by omega
    subst hc
    rw [if_neg (by omega)]
    rw [iter_eq, hst, hev]
    simp [loopAt, findLoop, Tryd.f15, htt, hlin, hreg, reg15, hcall, hcallP, hlv_4, hlv_100004]
  | succ u ih =>
    intro i k st hu h1 hk hst
    obtain ⟨k, rfl⟩ : ∃ j, k = j + 1 := ⟨k - 1, by omega⟩
    have e0 : i ≤ 21 := by omega
    have e0' : ¬ 21 < i := by omega
    have e1 : i + 1 ≤ 9223372036854775807 := by omega
    have e2 : -9223372036854775808 ≤ i + 1 := by omega
    have ih' := fun st h => ih (i + 1) k st (by omega) (by omega) (by omega) h
    by_cases hq : q = i
    · subst hq
      rw [if_pos (by omega)]
      rw [iter_eq, hst, hev]
      simp [loopAt, findLoop, Tryd.f15, htt, hlin, hreg, reg15, hcall, hcallP, hlv_4, hlv_100004, e0, e0', e1, e2]
    · have e3 : (i + 1 ≤ q ∧ q ≤ 21) ↔ (i ≤ q ∧ q ≤ 21) := by omega
      simp only [e3] at ih'
      rw [iter_eq, hst, hev]
      simp [loopAt, findLoop, Tryd.f15, htt, hlin, hreg, reg15, hcall, hcallP, hlv_4, hlv_100004, e0, e0', e1, e2, hq]
      exact ih' _ (by simp)

theorem loop_code2 {m : Nat} {C : Ctx} {F : Nat} (hC : (envG G).ctx 15 (callN (envG G) F (m)) (callP (envG G) F (m)) = C) {c : Code} (hc : loopAt 4 Tryd.f15 = some c) (q p : Int) : ∀ (u : Nat) (i : Int) (k : Nat) (st : St), i + u = 22 → 1 ≤ i → u < k →
    st.trim 0 [0, 3] = ⟨[(0, .d (spotD q p)), (3, .d (.int .i64 i))], [], []⟩ →
    iter (ev C F c) 0 [0, 3] [2] k st = some (.exit 0, ⟨[], [], []⟩) := by
  have htt : C.tt = (envG G).tt := by rw [← hC]; rfl
  have hlin : C.lin = [] := by rw [← hC]; rfl
  have hreg : C.reg = reg15 := by rw [← hC]; rfl
  have hcall : C.call = callN (envG G) F (m) := by rw [← hC]; rfl
  have hcallP : C.callP = callP (envG G) F (m) := by rw [← hC]; rfl
  have hlv_4 : C.live 4 = [0, 3] := by rw [← hC]; rfl
  have hlv_100004 : C.live 100004 = [2] := by rw [← hC]; rfl
  have hev : ∀ st, ev C F c st = ev C F ((loopAt 4 Tryd.f15).getD .skip) st := fun st => by rw [hc]; rfl
  unfold spotD err
  intro u
  induction u with
  | zero =>
    intro i k st hu h1 hk hst
    obtain ⟨k, rfl⟩ : ∃ j, k = j + 1 := ⟨k - 1, by omega⟩
    have hc : i = 22 := by omega
    subst hc
    rw [iter_eq, hst, hev]
    simp [loopAt, findLoop, Tryd.f15, htt, hlin, hreg, reg15, hcall, hcallP, hlv_4, hlv_100004]
  | succ u ih =>
    intro i k st hu h1 hk hst
    obtain ⟨k, rfl⟩ : ∃ j, k = j + 1 := ⟨k - 1, by omega⟩
    have e0 : i ≤ 21 := by omega
    have e0' : ¬ 21 < i := by omega
    have e1 : i + 1 ≤ 9223372036854775807 := by omega
    have e2 : -9223372036854775808 ≤ i + 1 := by omega
    have ih' := fun st h => ih (i + 1) k st (by omega) (by omega) (by omega) h
    rw [iter_eq, hst, hev]
    simp [loopAt, findLoop, Tryd.f15, htt, hlin, hreg, reg15, hcall, hcallP, hlv_4, hlv_100004, e0, e0', e1, e2]
    exact ih' _ (by simp)

theorem t_Code (F n : Nat) (hF : 22 < F) (q : Int) : callN (envG G) F (n+1) 15 [.d (err q)] = some ⟨[.d (.int .i64 (if 1 ≤ q ∧ q ≤ 21 then q else -1))], []⟩ := by
  rw [callN_run (fn := Tryd.f15) rfl rfl rfl (by simp [Tryd.ntmps15])]
  generalize hC : (envG G).ctx 15 (callN (envG G) F (n)) (callP (envG G) F (n)) = C
  have htt : C.tt = (envG G).tt := by rw [← hC]; rfl
  have hlin : C.lin = [] := by rw [← hC]; rfl
  have hreg : C.reg = reg15 := by rw [← hC]; rfl
  have hcall : C.call = callN (envG G) F (n) := by rw [← hC]; rfl
  have hcallP : C.callP = callP (envG G) F (n) := by rw [← hC]; rfl
  have hlv_4 : C.live 4 = [0, 3] := by rw [← hC]; rfl
  have hlv_100004 : C.live 100004 = [2] := by rw [← hC]; rfl
  have hL := fun st h => loop_code (G := G) hC rfl q 21 1 F st (by omega) (by omega) (by omega) h
  unfold err at hL ⊢
  simp [htt, hlin, hreg, reg15, hcall, hcallP, hlv_4, hlv_100004, ev_loop]
  by_cases hq : 1 ≤ q ∧ q ≤ 21
  · rw [if_pos hq] at hL ⊢
    rw [hL _ (by simp)]
    simp [htt, hlin, hreg, reg15, hcall, hcallP, hlv_4, hlv_100004]
  · rw [if_neg hq] at hL ⊢
    rw [hL _ (by simp)]
    simp [htt, hlin, hreg, reg15, hcall, hcallP, hlv_4, hlv_100004]

theorem t_Code_nil (F n : Nat) : callN (envG G) F (n+1) 15 [.d .nilifc] = some ⟨[.d (.int .i64 0)], []⟩ := by
  rw [callN_run (fn := Tryd.f15) rfl rfl rfl (by simp [Tryd.ntmps15])]
  generalize hC : (envG G).ctx 15 (callN (envG G) F (n)) (callP (envG G) F (n)) = C
  have htt : C.tt = (envG G).tt := by rw [← hC]; rfl
  have hlin : C.lin = [] := by rw [← hC]; rfl
  have hreg : C.reg = reg15 := by rw [← hC]; rfl
  have hcall : C.call = callN (envG G) F (n) := by rw [← hC]; rfl
  have hcallP : C.callP = callP (envG G) F (n) := by rw [← hC]; rfl
  have hlv_4 : C.live 4 = [0, 3] := by rw [← hC]; rfl
  have hlv_100004 : C.live 100004 = [2] := by rw [← hC]; rfl
  simp [htt, hlin, hreg, reg15, hcall, hcallP, hlv_4, hlv_100004]

theorem t_Code_spot (F n : Nat) (hF : 22 < F) (q p : Int) : callN (envG G) F (n+1) 15 [.d (spotD q p)] = some ⟨[.d (.int .i64 (-1))], []⟩ := by
  rw [callN_run (fn := Tryd.f15) rfl rfl rfl (by simp [Tryd.ntmps15])]
  generalize hC : (envG G).ctx 15 (callN (envG G) F (n)) (callP (envG G) F (n)) = C
  have htt : C.tt = (envG G).tt := by rw [← hC]; rfl
  have hlin : C.lin = [] := by rw [← hC]; rfl
  have hreg : C.reg = reg15 := by rw [← hC]; rfl
  have hcall : C.call = callN (envG G) F (n) := by rw [← hC]; rfl
  have hcallP : C.callP = callP (envG G) F (n) := by rw [← hC]; rfl
  have hlv_4 : C.live 4 = [0, 3] := by rw [← hC]; rfl
  have hlv_100004 : C.live 100004 = [2] := by rw [← hC]; rfl
  have hL := fun st h => loop_code2 (G := G) hC rfl q p 21 1 F st (by omega) (by omega) (by omega) h
  unfold spotD err at hL ⊢
  simp [htt, hlin, hreg, reg15, hcall, hcallP, hlv_4, hlv_100004, ev_loop]
  rw [hL _ (by simp)]
  simp [htt, hlin, hreg, reg15, hcall, hcallP, hlv_4, hlv_100004]
end Go.Proofs.YtjmcgdhekjkjfaaDoor

/- What is asked of elements, and what small numbers they are. -/
set_option linter.unusedSimpArgs false
set_option linter.unusedVariables false
namespace Go.Proofs.YtjmcgdhekjkjfaaDoor
open Go Go.VM
variable {G : GE}
set_option maxRecDepth 100000
set_option maxHeartbeats 4000000

theorem t_IsList (F n : Nat) (x1 x2 : Int) (x3 x4 : Bool) (x5 : List Int) (x6 : Bool) (x7 : List Tlv) (k : Int) :
    callN (envG G) F (n+1) 64 [.d (.agg [.int .i64 x1, .int .i64 x2, .bool x3, .nums .u8 x4 x5, .sl 5 x6 (Tlv.cellsL x7)]), .d (.int .i64 k)] = some ⟨[.d (.bool (decide (x1 = 0 ∧ x2 = 16 ∧ x3 = true ∧ (k < 0 ∨ (x7.length : Int) = k))))], []⟩ := by
  rw [callN_run (fn := Tryd.f64) rfl rfl rfl (by simp [Tryd.ntmps64])]
  generalize hC : (envG G).ctx 64 (callN (envG G) F (n)) (callP (envG G) F (n)) = C
  have htt : C.tt = (envG G).tt := by rw [← hC]; rfl
  have hlin : C.lin = [] := by rw [← hC]; rfl
  have hreg : C.reg = reg64 := by rw [← hC]; rfl
  have hcall : C.call = callN (envG G) F (n) := by rw [← hC]; rfl
  have hcallP : C.callP = callP (envG G) F (n) := by rw [← hC]; rfl
  have hl := cellsL_len x7
  by_cases h1 : x1 = 0
  · by_cases h2 : x2 = 16
    · cases x3
      · simp [htt, hlin, hreg, reg64, hcall, hcallP, h1, h2]
      · by_cases h3 : k < 0
        · simp [htt, hlin, hreg, reg64, hcall, hcallP, h1, h2, h3]
        · by_cases h4 : (x7.length : Int) = k
          · simp [htt, hlin, hreg, reg64, hcall, hcallP, h1, h2, h3, h4, hl]
          · simp [htt, hlin, hreg, reg64, hcall, hcallP, h1, h2, h3, h4, hl]
    · simp [htt, hlin, hreg, reg64, hcall, hcallP, h1, h2]
  · simp [htt, hlin, hreg, reg64, hcall, hcallP, h1]

theorem t_IsPlain (F n : Nat) (x1 x2 : Int) (x3 x4 : Bool) (x5 : List Int) (x6 : Bool) (x7 : List Tlv) (k : Int) :
    callN (envG G) F (n+1) 66 [.d (.agg [.int .i64 x1, .int .i64 x2, .bool x3, .nums .u8 x4 x5, .sl 5 x6 (Tlv.cellsL x7)]), .d (.int .i64 k)] = some ⟨[.d (.bool (decide (x1 = 0 ∧ x2 = k ∧ x3 = false)))], []⟩ := by
  rw [callN_run (fn := Tryd.f66) rfl rfl rfl (by simp [Tryd.ntmps66])]
  generalize hC : (envG G).ctx 66 (callN (envG G) F (n)) (callP (envG G) F (n)) = C
  have htt : C.tt = (envG G).tt := by rw [← hC]; rfl
  have hlin : C.lin = [] := by rw [← hC]; rfl
  have hreg : C.reg = reg66 := by rw [← hC]; rfl
  have hcall : C.call = callN (envG G) F (n) := by rw [← hC]; rfl
  have hcallP : C.callP = callP (envG G) F (n) := by rw [← hC]; rfl
  by_cases h1 : x1 = 0
  · by_cases h2 : x2 = k
    · cases x3 <;> simp [htt, hlin, hreg, reg66, hcall, hcallP, h1, h2]
    · simp [htt, hlin, hreg, reg66, hcall, hcallP, h1, h2]
  · simp [htt, hlin, hreg, reg66, hcall, hcallP, h1]

theorem t_r16IsList (F n : Nat) (x1 x2 : Int) (x3 x4 : Bool) (x5 : List Int) (x6 : Bool) (x7 : List Tlv) :
    callN (envG G) F (n+1) 67 [.d (.agg [.int .i64 x1, .int .i64 x2, .bool x3, .nums .u8 x4 x5, .sl 5 x6 (Tlv.cellsL x7)])] = some ⟨[.d (.bool (decide (x1 = 0 ∧ x2 = 16 ∧ x3 = true)))], []⟩ := by
  rw [callN_run (fn := Tryd.f67) rfl rfl rfl (by simp [Tryd.ntmps67])]
  generalize hC : (envG G).ctx 67 (callN (envG G) F (n)) (callP (envG G) F (n)) = C
  have htt : C.tt = (envG G).tt := by rw [← hC]; rfl
  have hlin : C.lin = [] := by rw [← hC]; rfl
  have hreg : C.reg = reg67 := by rw [← hC]; rfl
  have hcall : C.call = callN (envG G) F (n) := by rw [← hC]; rfl
  have hcallP : C.callP = callP (envG G) F (n) := by rw [← hC]; rfl
  by_cases h1 : x1 = 0
  · by_cases h2 : x2 = 16
    · cases x3 <;> simp [htt, hlin, hreg, reg67, hcall, hcallP, h1, h2]
    · simp [htt, hlin, hreg, reg67, hcall, hcallP, h1, h2]
  · simp [htt, hlin, hreg, reg67, hcall, hcallP, h1]

/-- The small number of a body; 0 of none. -/
def smallV (b : List Int) : Int := match small b with | .inl _ => 0 | .inr v => v
def smallOk (b : List Int) : Bool := match small b with | .inl _ => false | .inr _ => true

theorem t_SmallOf (F n : Nat) (hF : 100 ≤ F) (x1 x2 : Int) (x3 x4 : Bool) (x5 : List Int) (x6 : Bool) (x7 : List Tlv) (hn : x4 = true → x5 = []) (hx : x5.length ≤ 140737488355328) (hb : ∀ x ∈ x5, 0 ≤ x ∧ x < 256) :
    callN (envG G) F (n+4) 65 [.d (.agg [.int .i64 x1, .int .i64 x2, .bool x3, .nums .u8 x4 x5, .sl 5 x6 (Tlv.cellsL x7)])] = some ⟨(if x1 = 0 ∧ x2 = 2 ∧ x3 = false then [.d (.int .i64 (smallV x5)), .d (.bool (smallOk x5))] else [.d (.int .i64 0), .d (.bool false)]), []⟩ := by
  have k1 := t_IsPlain (G := G) F (n + 2) x1 x2 x3 x4 x5 x6 x7 2
  have k2 := t_Small (G := G) F n hF x4 x5 hn hx hb
  rw [callN_run (fn := Tryd.f65) rfl rfl rfl (by simp [Tryd.ntmps65])]
  generalize hC : (envG G).ctx 65 (callN (envG G) F (n+3)) (callP (envG G) F (n+3)) = C
  have htt : C.tt = (envG G).tt := by rw [← hC]; rfl
  have hlin : C.lin = [] := by rw [← hC]; rfl
  have hreg : C.reg = reg65 := by rw [← hC]; rfl
  have hcall : C.call = callN (envG G) F (n+3) := by rw [← hC]; rfl
  have hcallP : C.callP = callP (envG G) F (n+3) := by rw [← hC]; rfl
  have hlv_200004 : C.live 200004 = [] := by rw [← hC]; rfl
  by_cases h : x1 = 0 ∧ x2 = 2 ∧ x3 = false
  · rw [if_pos h]
    rw [decide_eq_true h] at k1
    unfold smallV smallOk
    cases hs : small x5 with
    | inl e =>
      rw [hs] at k2
      unfold err at k2
      simp [htt, hlin, hreg, reg65, hcall, hcallP, hlv_200004, k1, k2]
    | inr v =>
      rw [hs] at k2
      simp [htt, hlin, hreg, reg65, hcall, hcallP, hlv_200004, k1, k2]
  · rw [if_neg h]
    rw [decide_eq_false h] at k1
    simp [htt, hlin, hreg, reg65, hcall, hcallP, hlv_200004, k1]

theorem small_err {b : List Int} {e : Int} (h : small b = .inl e) : e ≠ 0 := by
  unfold small at h
  split at h
  · rename_i e' he
    have := numB_err he
    injection h with h; omega
  · repeat' split at h
    all_goals first | (injection h with h; omega) | cases h

theorem t_r16Small (F n : Nat) (hF : 100 ≤ F) (x1 x2 : Int) (x3 x4 : Bool) (x5 : List Int) (x6 : Bool) (x7 : List Tlv) (hn : x4 = true → x5 = []) (hx : x5.length ≤ 140737488355327) (hb : ∀ x ∈ x5, 0 ≤ x ∧ x < 256) :
    callN (envG G) F (n+3) 68 [.d (.agg [.int .i64 x1, .int .i64 x2, .bool x3, .nums .u8 x4 x5, .sl 5 x6 (Tlv.cellsL x7)])] = some ⟨[.d (.int .i64 (smallV x5)), .d (.bool (decide (x1 = 0 ∧ x2 = 2 ∧ x3 = false) && smallOk x5))], []⟩ := by
  have k2 := t_rSmall (G := G) F n hF x4 x5 hn hx hb
  rw [callN_run (fn := Tryd.f68) rfl rfl rfl (by simp [Tryd.ntmps68])]
  generalize hC : (envG G).ctx 68 (callN (envG G) F (n+2)) (callP (envG G) F (n+2)) = C
  have htt : C.tt = (envG G).tt := by rw [← hC]; rfl
  have hlin : C.lin = [] := by rw [← hC]; rfl
  have hreg : C.reg = reg68 := by rw [← hC]; rfl
  have hcall : C.call = callN (envG G) F (n+2) := by rw [← hC]; rfl
  have hcallP : C.callP = callP (envG G) F (n+2) := by rw [← hC]; rfl
  unfold smallV smallOk
  cases hs : small x5 with
  | inl e =>
    rw [hs] at k2
    have he := small_err hs
    by_cases h1 : x1 = 0
    · by_cases h2 : x2 = 2
      · cases x3 <;> simp [htt, hlin, hreg, reg68, hcall, hcallP, k2, h1, h2, he]
      · simp [htt, hlin, hreg, reg68, hcall, hcallP, k2, h1, h2]
    · simp [htt, hlin, hreg, reg68, hcall, hcallP, k2, h1]
  | inr v =>
    rw [hs] at k2
    by_cases h1 : x1 = 0
    · by_cases h2 : x2 = 2
      · cases x3 <;> simp [htt, hlin, hreg, reg68, hcall, hcallP, k2, h1, h2]
      · simp [htt, hlin, hreg, reg68, hcall, hcallP, k2, h1, h2]
    · simp [htt, hlin, hreg, reg68, hcall, hcallP, k2, h1]
end Go.Proofs.YtjmcgdhekjkjfaaDoor

/- What manifest.Decode hands back: its loops. -/
set_option linter.unusedSimpArgs false
set_option linter.unusedVariables false
namespace Go.Proofs.YtjmcgdhekjkjfaaDoor
open Go Go.VM
variable {G : GE}
set_option maxRecDepth 100000
set_option maxHeartbeats 16000000

/-- Is it a small number, and which? -/
def Tlv.isSmall : Tlv → Bool
  | .mk x1 x2 x3 _ x5 _ _ => decide (x1 = 0 ∧ x2 = 2 ∧ x3 = false) && smallOk x5
def Tlv.valS : Tlv → Int
  | .mk _ _ _ _ x5 _ _ => smallV x5
/-- Are its bytes such ones as can be? -/
def Tlv.plainOk : Tlv → Prop
  | .mk _ _ _ x4 x5 _ _ => (x4 = true → x5 = []) ∧ x5.length ≤ 140737488355327 ∧ ∀ x ∈ x5, 0 ≤ x ∧ x < 256

theorem t_SmallOf' (F n : Nat) (hF : 100 ≤ F) (x : Tlv) (h : x.plainOk) : ∃ v, callN (envG G) F (n+4) 65 [.d (.agg x.cells)] = some ⟨[.d (.int .i64 v), .d (.bool x.isSmall)], []⟩ ∧ (x.isSmall = true → v = x.valS) := by
  obtain ⟨x1, x2, x3, x4, x5, x6, x7⟩ := x
  have k := t_SmallOf (G := G) F n hF x1 x2 x3 x4 x5 x6 x7 h.1 (by have := h.2.1; omega) h.2.2
  simp only [Tlv.cells, Tlv.isSmall, Tlv.valS]
  by_cases hc : x1 = 0 ∧ x2 = 2 ∧ x3 = false
  · rw [if_pos hc] at k
    exact ⟨_, by rw [k, decide_eq_true hc, Bool.true_and], fun _ => rfl⟩
  · rw [if_neg hc] at k
    exact ⟨_, by rw [k, decide_eq_false hc, Bool.false_and], fun h => by rw [decide_eq_false hc] at h; cases h⟩

def zeroM : Blk := .cells false [.d (.int .i64 0), .d (.int .i64 0), .d (.int .i64 0), .d (.int .i64 0), .d (.nums .u8 true []), .d (.nums .u8 true []), .d (.nums .u8 true [])]
def fourP : Blk := .cells false [.ptr 2 0, .ptr 2 1, .ptr 2 2, .ptr 2 3]
def tlvK (p0 p1 p2 p3 : D) (x6 : Bool) (x7 : List Tlv) : Blk := .cells false [.d p0, .d p1, .d p2, .d p3, .d (.sl 5 x6 (Tlv.cellsL x7))]
def zeroMD : D := .agg [.int .i64 0, .int .i64 0, .int .i64 0, .int .i64 0, .nums .u8 true [], .nums .u8 true [], .nums .u8 true []]

theorem loop_dec1 {m : Nat} {C : Ctx} {F : Nat} (hC : (envG G).ctx 19 (callN (envG G) F (m)) (callP (envG G) F (m)) = C) {c : Code} (hc : loopAt 8 Tryd.f19 = some c) (p0 p1 p2 p3 : D) (x6 : Bool) (x7 : List Tlv) (k0 k1 k2 k3 : Tlv) (v0 v1 v2 v3 : Int)
    (h0 : x7[0]? = some k0) (h1 : x7[1]? = some k1) (h2 : x7[2]? = some k2) (h3 : x7[3]? = some k3)
    (g0 : callN (envG G) F m 65 [.d (.agg k0.cells)] = some ⟨[.d (.int .i64 v0), .d (.bool k0.isSmall)], []⟩)
    (g1 : callN (envG G) F m 65 [.d (.agg k1.cells)] = some ⟨[.d (.int .i64 v1), .d (.bool k1.isSmall)], []⟩)
    (g2 : callN (envG G) F m 65 [.d (.agg k2.cells)] = some ⟨[.d (.int .i64 v2), .d (.bool k2.isSmall)], []⟩)
    (g3 : callN (envG G) F m 65 [.d (.agg k3.cells)] = some ⟨[.d (.int .i64 v3), .d (.bool k3.isSmall)], []⟩) (k : Nat) (st : St)
    (hst : st.trim 4 [2, 4, 6, 33, 34, 35] = ⟨[(2, .ptr 0 0), (4, .ptr 1 0), (6, .ptr 2 0), (33, .mu 3 0 4 4 1), (34, .d (.int .i64 4)), (35, .d (.int .i64 0))], [some zeroM, some (tlvK p0 p1 p2 p3 x6 x7), some zeroM, some fourP], []⟩) :
    if k0.isSmall && k1.isSmall && k2.isSmall && k3.isSmall then
      iter (ev C F c) 4 [2, 4, 6, 33, 34, 35] [2, 3, 4, 6] (k + 5) st = some (.exit 0, ⟨[(2, .ptr 0 0), (4, .ptr 1 0), (6, .ptr 2 0)], [some zeroM, some (tlvK p0 p1 p2 p3 x6 x7), some (.cells false [.d (.int .i64 v0), .d (.int .i64 v1), .d (.int .i64 v2), .d (.int .i64 v3), .d (.nums .u8 true []), .d (.nums .u8 true []), .d (.nums .u8 true [])]), some fourP], []⟩)
    else ∃ st', iter (ev C F c) 4 [2, 4, 6, 33, 34, 35] [2, 3, 4, 6] (k + 5) st = some (.ret, st') ∧ finish C Tryd.f19.results.toList (some (.ret, st')) = some ⟨[.d zeroMD, .d (err 7)], []⟩ := by
  have htt : C.tt = (envG G).tt := by rw [← hC]; rfl
  have hlin : C.lin = [] := by rw [← hC]; rfl
  have hreg : C.reg = reg19 := by rw [← hC]; rfl
  have hcall : C.call = callN (envG G) F (m) := by rw [← hC]; rfl
  have hcallP : C.callP = callP (envG G) F (m) := by rw [← hC]; rfl
  have hlv_8 : C.live 8 = [2, 4, 6, 33, 34, 35] := by rw [← hC]; rfl
  have hlv_100008 : C.live 100008 = [2, 3, 4, 6] := by rw [← hC]; rfl
  have hlv_17 : C.live 17 = [2, 4, 6, 11, 61, 62, 63] := by rw [← hC]; rfl
  have hlv_100017 : C.live 100017 = [2, 3, 6] := by rw [← hC]; rfl
  have hlv_200020 : C.live 200020 = [] := by rw [← hC]; rfl
  have hev : ∀ st, ev C F c st = ev C F ((loopAt 8 Tryd.f19).getD .skip) st := fun st => by rw [hc]; rfl
  have r0 : (Tlv.cellsL x7)[0]? = some k0.cells := by rw [cellsL_map, List.getElem?_map, h0]; rfl
  have r1 : (Tlv.cellsL x7)[1]? = some k1.cells := by rw [cellsL_map, List.getElem?_map, h1]; rfl
  have r2 : (Tlv.cellsL x7)[2]? = some k2.cells := by rw [cellsL_map, List.getElem?_map, h2]; rfl
  have r3 : (Tlv.cellsL x7)[3]? = some k3.cells := by rw [cellsL_map, List.getElem?_map, h3]; rfl
  clear h0 h1 h2 h3
  unfold zeroM fourP tlvK at *
  unfold zeroMD err
  generalize hs0 : k0.isSmall = s0 at *
  generalize hs1 : k1.isSmall = s1 at *
  generalize hs2 : k2.isSmall = s2 at *
  generalize hs3 : k3.isSmall = s3 at *
  obtain ⟨a1, a2, a3, a4, a5, a6, a7⟩ := k0
  obtain ⟨b1, b2, b3, b4, b5, b6, b7⟩ := k1
  obtain ⟨c1, c2, c3, c4, c5, c6, c7⟩ := k2
  obtain ⟨d1, d2, d3, d4, d5, d6, d7⟩ := k3
  simp only [Tlv.cells] at r0 r1 r2 r3 g0 g1 g2 g3
  clear hs0 hs1 hs2 hs3
  rw [iter_eq, hst, hev]
  cases s0
  case false => simp [loopAt, findLoop, Tryd.f19, htt, hlin, hreg, reg19, hcall, hcallP, hlv_8, hlv_100008, hlv_17, hlv_100017, hlv_200020, r0, g0]
  simp [loopAt, findLoop, Tryd.f19, htt, hlin, hreg, reg19, hcall, hcallP, hlv_8, hlv_100008, hlv_17, hlv_100017, hlv_200020, r0, g0]
  rw [iter_eq, hev]
  cases s1
  case false => simp [loopAt, findLoop, Tryd.f19, htt, hlin, hreg, reg19, hcall, hcallP, hlv_8, hlv_100008, hlv_17, hlv_100017, hlv_200020, r1, g1]
  simp [loopAt, findLoop, Tryd.f19, htt, hlin, hreg, reg19, hcall, hcallP, hlv_8, hlv_100008, hlv_17, hlv_100017, hlv_200020, r1, g1]
  rw [iter_eq, hev]
  cases s2
  case false => simp [loopAt, findLoop, Tryd.f19, htt, hlin, hreg, reg19, hcall, hcallP, hlv_8, hlv_100008, hlv_17, hlv_100017, hlv_200020, r2, g2]
  simp [loopAt, findLoop, Tryd.f19, htt, hlin, hreg, reg19, hcall, hcallP, hlv_8, hlv_100008, hlv_17, hlv_100017, hlv_200020, r2, g2]
  rw [iter_eq, hev]
  cases s3
  case false => simp [loopAt, findLoop, Tryd.f19, htt, hlin, hreg, reg19, hcall, hcallP, hlv_8, hlv_100008, hlv_17, hlv_100017, hlv_200020, r3, g3]
  simp [loopAt, findLoop, Tryd.f19, htt, hlin, hreg, reg19, hcall, hcallP, hlv_8, hlv_100008, hlv_17, hlv_100017, hlv_200020, r3, g3]
  rw [iter_eq, hev]
  simp [loopAt, findLoop, Tryd.f19, htt, hlin, hreg, reg19, hcall, hcallP, hlv_8, hlv_100008, hlv_17, hlv_100017, hlv_200020, r3, g3]

def threeP : Blk := .cells false [.ptr 2 4, .ptr 2 5, .ptr 2 6]
/-- Is it bytes, so many? -/
def Tlv.isBytes (n : Nat) : Tlv → Bool
  | .mk x1 x2 x3 _ x5 _ _ => decide (x1 = 0 ∧ x2 = 4 ∧ x3 = false ∧ x5.length = n)
def Tlv.bodyD : Tlv → D
  | .mk _ _ _ x4 x5 _ _ => .nums .u8 x4 x5
def Tlv.body : Tlv → List Int
  | .mk _ _ _ _ x5 _ _ => x5
def Tlv.bnil : Tlv → Bool
  | .mk _ _ _ x4 _ _ _ => x4

theorem t_IsPlain' (F n : Nat) (x : Tlv) (k : Int) : ∃ b, callN (envG G) F (n+1) 66 [.d (.agg x.cells), .d (.int .i64 k)] = some ⟨[.d (.bool b)], []⟩ ∧ (k = 4 → ∀ n, (b && decide (x.body.length = n)) = x.isBytes n) := by
  obtain ⟨x1, x2, x3, x4, x5, x6, x7⟩ := x
  refine ⟨_, t_IsPlain (G := G) F n x1 x2 x3 x4 x5 x6 x7 k, fun hk n => ?_⟩
  subst hk
  simp only [Tlv.isBytes, Tlv.body]
  by_cases hl : x5.length = n <;> by_cases h1 : x1 = 0 <;> by_cases h2 : x2 = 4 <;> by_cases h3 : x3 = false <;> simp [h1, h2, h3, hl]

theorem loop_dec2 {m : Nat} {C : Ctx} {F : Nat} (hC : (envG G).ctx 19 (callN (envG G) F (m)) (callP (envG G) F (m)) = C) {c : Code} (hc : loopAt 17 Tryd.f19 = some c) (p0 p1 p2 p3 : D) (x6 : Bool) (x7 : List Tlv) (k4 k5 k6 : Tlv) (v0 v1 v2 v3 : Int) (b4 b5 b6 : Bool)
    (h4 : x7[4]? = some k4) (h5 : x7[5]? = some k5) (h6 : x7[6]? = some k6)
    (g4 : callN (envG G) F m 66 [.d (.agg k4.cells), .d (.int .i64 4)] = some ⟨[.d (.bool b4)], []⟩)
    (g5 : callN (envG G) F m 66 [.d (.agg k5.cells), .d (.int .i64 4)] = some ⟨[.d (.bool b5)], []⟩)
    (g6 : callN (envG G) F m 66 [.d (.agg k6.cells), .d (.int .i64 4)] = some ⟨[.d (.bool b6)], []⟩) (k : Nat) (st : St)
    (hst : st.trim 5 [2, 4, 6, 11, 61, 62, 63] = ⟨[(2, .ptr 0 0), (4, .ptr 1 0), (6, .ptr 2 0), (11, .d (.nums .i64 false [12, 145, 48])), (61, .mu 4 0 3 3 1), (62, .d (.int .i64 3)), (63, .d (.int .i64 0))],
      [some zeroM, some (tlvK p0 p1 p2 p3 x6 x7), some (.cells false [.d (.int .i64 v0), .d (.int .i64 v1), .d (.int .i64 v2), .d (.int .i64 v3), .d (.nums .u8 true []), .d (.nums .u8 true []), .d (.nums .u8 true [])]), some fourP, some threeP], [.t 11]⟩) :
    if (b4 && decide (k4.body.length = 12)) && (b5 && decide (k5.body.length = 145)) && (b6 && decide (k6.body.length = 48)) then
      iter (ev C F c) 5 [2, 4, 6, 11, 61, 62, 63] [2, 3, 6] (k + 4) st = some (.exit 2, ⟨[(2, .ptr 0 0), (6, .ptr 2 0)], [some zeroM, some (tlvK p0 p1 p2 p3 x6 x7), some (.cells false [.d (.int .i64 v0), .d (.int .i64 v1), .d (.int .i64 v2), .d (.int .i64 v3), .d k4.bodyD, .d k5.bodyD, .d k6.bodyD]), some fourP, some threeP], []⟩)
    else ∃ st', iter (ev C F c) 5 [2, 4, 6, 11, 61, 62, 63] [2, 3, 6] (k + 4) st = some (.ret, st') ∧ finish C Tryd.f19.results.toList (some (.ret, st')) = some ⟨[.d zeroMD, .d (err 7)], []⟩ := by
  have htt : C.tt = (envG G).tt := by rw [← hC]; rfl
  have hlin : C.lin = [] := by rw [← hC]; rfl
  have hreg : C.reg = reg19 := by rw [← hC]; rfl
  have hcall : C.call = callN (envG G) F (m) := by rw [← hC]; rfl
  have hcallP : C.callP = callP (envG G) F (m) := by rw [← hC]; rfl
  have hlv_8 : C.live 8 = [2, 4, 6, 33, 34, 35] := by rw [← hC]; rfl
  have hlv_100008 : C.live 100008 = [2, 3, 4, 6] := by rw [← hC]; rfl
  have hlv_17 : C.live 17 = [2, 4, 6, 11, 61, 62, 63] := by rw [← hC]; rfl
  have hlv_100017 : C.live 100017 = [2, 3, 6] := by rw [← hC]; rfl
  have hlv_200020 : C.live 200020 = [] := by rw [← hC]; rfl
  have hev : ∀ st, ev C F c st = ev C F ((loopAt 17 Tryd.f19).getD .skip) st := fun st => by rw [hc]; rfl
  have r4 : (Tlv.cellsL x7)[4]? = some k4.cells := by rw [cellsL_map, List.getElem?_map, h4]; rfl
  have r5 : (Tlv.cellsL x7)[5]? = some k5.cells := by rw [cellsL_map, List.getElem?_map, h5]; rfl
  have r6 : (Tlv.cellsL x7)[6]? = some k6.cells := by rw [cellsL_map, List.getElem?_map, h6]; rfl
  clear h4 h5 h6
  unfold zeroM fourP threeP tlvK at *
  unfold zeroMD err
  obtain ⟨a1, a2, a3, a4, a5, a6, a7⟩ := k4
  obtain ⟨e1, e2, e3, e4, e5, e6, e7⟩ := k5
  obtain ⟨d1, d2, d3, d4, d5, d6, d7⟩ := k6
  simp only [Tlv.cells] at r4 r5 r6 g4 g5 g6
  simp only [Tlv.body, Tlv.bodyD]
  rw [iter_eq, hst, hev]
  cases b4
  case false => simp [loopAt, findLoop, Tryd.f19, htt, hlin, hreg, reg19, hcall, hcallP, hlv_8, hlv_100008, hlv_17, hlv_100017, hlv_200020, r4, g4]
  by_cases l4 : a5.length = 12
  case neg =>
    have l4' : ¬ (a5.length : Int) = 12 := by omega
    simp [loopAt, findLoop, Tryd.f19, htt, hlin, hreg, reg19, hcall, hcallP, hlv_8, hlv_100008, hlv_17, hlv_100017, hlv_200020, r4, g4, l4, l4']
  simp [loopAt, findLoop, Tryd.f19, htt, hlin, hreg, reg19, hcall, hcallP, hlv_8, hlv_100008, hlv_17, hlv_100017, hlv_200020, r4, g4, l4]
  rw [iter_eq, hev]
  cases b5
  case false => simp [loopAt, findLoop, Tryd.f19, htt, hlin, hreg, reg19, hcall, hcallP, hlv_8, hlv_100008, hlv_17, hlv_100017, hlv_200020, r5, g5]
  by_cases l5 : e5.length = 145
  case neg =>
    have l5' : ¬ (e5.length : Int) = 145 := by omega
    simp [loopAt, findLoop, Tryd.f19, htt, hlin, hreg, reg19, hcall, hcallP, hlv_8, hlv_100008, hlv_17, hlv_100017, hlv_200020, r5, g5, l5, l5']
  simp [loopAt, findLoop, Tryd.f19, htt, hlin, hreg, reg19, hcall, hcallP, hlv_8, hlv_100008, hlv_17, hlv_100017, hlv_200020, r5, g5, l5]
  rw [iter_eq, hev]
  cases b6
  case false => simp [loopAt, findLoop, Tryd.f19, htt, hlin, hreg, reg19, hcall, hcallP, hlv_8, hlv_100008, hlv_17, hlv_100017, hlv_200020, r6, g6]
  by_cases l6 : d5.length = 48
  case neg =>
    have l6' : ¬ (d5.length : Int) = 48 := by omega
    simp [loopAt, findLoop, Tryd.f19, htt, hlin, hreg, reg19, hcall, hcallP, hlv_8, hlv_100008, hlv_17, hlv_100017, hlv_200020, r6, g6, l6, l6']
  simp [loopAt, findLoop, Tryd.f19, htt, hlin, hreg, reg19, hcall, hcallP, hlv_8, hlv_100008, hlv_17, hlv_100017, hlv_200020, r6, g6, l6]
  rw [iter_eq, hev]
  simp [loopAt, findLoop, Tryd.f19, htt, hlin, hreg, reg19, hcall, hcallP, hlv_8, hlv_100008, hlv_17, hlv_100017, hlv_200020, r6, g6]
end Go.Proofs.YtjmcgdhekjkjfaaDoor
