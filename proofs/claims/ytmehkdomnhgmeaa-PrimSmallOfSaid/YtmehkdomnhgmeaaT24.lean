/- What the reference's Small hands back: for every input. -/
import Derived.Test.YtmehkdomnhgmeaaT23
namespace Go.Proofs.Ytmehkdomnhgmeaa
open Go Go.VM
set_option linter.unusedSimpArgs false
set_option linter.unusedVariables false
set_option maxRecDepth 100000
set_option maxHeartbeats 4000000

/-- The number that bytes are, up to where it is too great. -/
def valR (v : Int) : List Int → Int × Bool
  | [] => (v, false)
  | x :: t => if 2147483647 < 256 * v + x then (256 * v + x, true) else valR (256 * v + x) t

theorem val_ge : ∀ (t : List Int) (v : Int), 0 ≤ v → (∀ x ∈ t, 0 ≤ x ∧ x < 256) → v ≤ val v t
  | [], v, _, _ => by simp [val]
  | x :: t, v, h0, hb => by
    have := hb x (List.mem_cons_self ..)
    have := val_ge t (v * 256 + x) (by omega) (fun y hy => hb y (List.mem_cons_of_mem _ hy))
    simp only [val]; omega
theorem val_big : ∀ (t : List Int) (v : Int), 0 ≤ v → (∀ x ∈ t, 0 ≤ x ∧ x < 256) → v * 256 ^ t.length ≤ val v t
  | [], v, _, _ => by simp [val]
  | x :: t, v, h0, hb => by
    have h1 := hb x (List.mem_cons_self ..)
    have h2 := val_big t (v * 256 + x) (by omega) (fun y hy => hb y (List.mem_cons_of_mem _ hy))
    simp only [val, List.length_cons, Int.pow_succ]
    have h3 : 0 ≤ x * 256 ^ t.length := Int.mul_nonneg h1.1 (Int.pow_nonneg (by omega))
    have h4 : (v * 256 + x) * 256 ^ t.length = v * (256 ^ t.length * 256) + x * 256 ^ t.length := by
      rw [Int.add_mul, Int.mul_assoc, Int.mul_comm 256]
    omega
theorem valR_no : ∀ (t : List Int) (v : Int), v ≤ 2147483647 → (valR v t).2 = false → (valR v t).1 = val v t ∧ val v t ≤ 2147483647
  | [], v, hv, _ => by simp [valR, val]; exact hv
  | x :: t, v, hv, h => by
    unfold valR at h ⊢
    simp only [val]
    split at h
    · cases h
    · rename_i hx
      rw [if_neg hx]
      have e : v * 256 + x = 256 * v + x := by omega
      rw [e]
      exact valR_no t _ (by omega) h
theorem valR_yes : ∀ (t : List Int) (v : Int), 0 ≤ v → (∀ x ∈ t, 0 ≤ x ∧ x < 256) → (valR v t).2 = true → 2147483647 < val v t
  | [], v, _, _, h => by simp [valR] at h
  | x :: t, v, h0, hb, h => by
    have h1 := hb x (List.mem_cons_self ..)
    have hb' : ∀ y ∈ t, 0 ≤ y ∧ y < 256 := fun y hy => hb y (List.mem_cons_of_mem _ hy)
    have e : v * 256 + x = 256 * v + x := by omega
    unfold valR at h
    simp only [val]
    rw [e]
    split at h
    · have := val_ge t (256 * v + x) (by omega) hb'
      omega
    · exact valR_yes t _ (by omega) hb' h

theorem number_first {xs ys : List Int} (h : number xs = .inr ys) : ∀ b t, ys = b :: t → b ≠ 0 := by
  unfold number at h
  repeat' split at h
  all_goals first | (cases h; done) | skip
  all_goals (cases h; intro b t e; simp_all)
  all_goals omega

theorem loop24 {C : Ctx} (htt : C.tt = env.tt) (hlin : C.lin = []) {fuel : Nat} {c : Code} (hc : loopAt 6 Try.f24 = some c) (nl : Bool) (ys : List Int) (hy : ys.length ≤ 140737488355328) :
    ∀ (rest : List Int) (i k : Nat) (v : Int) (st : St), ys.drop i = rest → i ≤ ys.length → (∀ x ∈ rest, 0 ≤ x ∧ x < 256) → 0 ≤ v → v ≤ 2147483647 → rest.length < k →
      st.trim 0 [4, 6, 7] = ⟨[(4, .d (.nums .u8 nl ys)), (6, .d (.int .i64 v)), (7, .d (.int .i64 i))], [], []⟩ →
      iter (ev C fuel c) 0 [4, 6, 7] [2, 3, 6] k st = some (if (valR v rest).2 = true then (.ret, ⟨[(2, .d (.int .i64 0)), (3, .d (.int .i64 3)), (6, .d (.int .i64 (valR v rest).1))], [], []⟩)
        else (.exit 0, ⟨[(6, .d (.int .i64 (valR v rest).1))], [], []⟩)) := by
  simp [loopAt, findLoop, Try.f24] at hc
  subst hc
  intro rest
  induction rest with
  | nil =>
    intro i k v st hd hi hb h0 hv hk hst
    obtain ⟨k, rfl⟩ : ∃ j, k = j + 1 := ⟨k - 1, by simp at hk; omega⟩
    have h0 : ys.length ≤ i := by simpa using hd
    have e0 : ¬ ((i : Int) < (ys.length : Int)) := by omega
    rw [iter_eq, hst]
    simp [htt, hlin, e0, valR]
  | cons b t ih =>
    intro i k v st hd hi hb h0 hv hk hst
    obtain ⟨k, rfl⟩ : ∃ j, k = j + 1 := ⟨k - 1, by simp at hk; omega⟩
    simp at hk
    have h1 : i < ys.length := by
      rcases Nat.lt_or_ge i ys.length with h | h
      · exact h
      · rw [List.drop_eq_nil_of_le h] at hd; cases hd
    have hbx : ys[i]? = some b := by
      have : (ys.drop i)[0]? = some b := by rw [hd]; rfl
      simpa using this
    have ht : ys.drop (i + 1) = t := by
      rw [← List.drop_drop, hd]; rfl
    obtain ⟨b0, b1⟩ := hb b (List.mem_cons_self ..)
    have e0 : (i : Int) < (ys.length : Int) := by omega
    have e1 : (i : Int) + 1 ≤ 9223372036854775807 := by omega
    have e2 : (-9223372036854775808 : Int) ≤ (i : Int) + 1 := by omega
    have e3 : (-9223372036854775808 : Int) ≤ 256 * v := by omega
    have e4 : 256 * v ≤ (9223372036854775807 : Int) := by omega
    have e5 : (-9223372036854775808 : Int) ≤ b := by omega
    have e6 : b ≤ (9223372036854775807 : Int) := by omega
    have e7 : (-9223372036854775808 : Int) ≤ 256 * v + b := by omega
    have e8 : 256 * v + b ≤ (9223372036854775807 : Int) := by omega
    rw [iter_eq, hst]
    by_cases hg : 2147483647 < 256 * v + b
    · simp [htt, hlin, e0, hbx, e1, e2, e3, e4, e5, e6, e7, e8, hg, valR]
    · have ih' := fun st h => ih (i + 1) k (256 * v + b) st ht (by omega) (fun x hx => hb x (List.mem_cons_of_mem _ hx)) (by omega) (by omega) hk h
      simp [htt, hlin, e0, hbx, e1, e2, e3, e4, e5, e6, e7, e8, hg, ih', valR]

theorem number_len {xs ys : List Int} (h : number xs = .inr ys) : ys.length ≤ 64 := by
  unfold number at h
  repeat' split at h
  all_goals first | (cases h; done) | skip
  all_goals (cases h; simp_all)
  all_goals omega

theorem t24 (fuel n : Nat) (nl : Bool) (xs : List Int) (hn : nl = true → xs = []) (hx : xs.length ≤ 140737488355328) (hb : ∀ x ∈ xs, 0 ≤ x ∧ x < 256) : callN env (fuel + 100) (n+2) 24 [.d (.nums .u8 nl xs)] = some (match small xs with
    | .inl e => ⟨[.d (.int .i64 0), .d (.int .i64 e)], []⟩
    | .inr v => ⟨[.d (.int .i64 v), .d (.int .i64 0)], []⟩) := by
  rw [callN_run (fn := Try.f24) rfl rfl rfl (by simp [Try.ntmps24])]
  generalize hC : env.ctx 24 (callN env (fuel + 100) (n+1)) = C
  have htt : C.tt = env.tt := by rw [← hC]; rfl
  have hlin : C.lin = [] := by rw [← hC]; rfl
  have hcall : C.call = callN env (fuel + 100) (n+1) := by rw [← hC]; rfl
  have hl1 : C.live 6 = [4, 6, 7] := by rw [← hC]; rfl
  have hl2 : C.live 100006 = [2, 3, 6] := by rw [← hC]; rfl
  have a1 := t20 (fuel + 100) n nl xs hn hx
  unfold small
  cases hnum : number xs with
  | inl e =>
    rw [hnum] at a1
    rcases number_err hnum with rfl | rfl <;> simp [htt, hlin, hcall, a1]
  | inr ys =>
    rw [hnum] at a1
    have hlen := number_len hnum
    have hyb := number_bytes hnum hb
    have hL := fun st h => @loop24 C htt hlin (fuel + 100) _ rfl false ys (by omega) ys 0 (fuel + 100) 0 st rfl (by omega) hyb (by omega) (by omega) (by omega) h
    cases hv : (valR 0 ys).2 with
    | true =>
      have h1 := valR_yes ys 0 (by omega) hyb hv
      have h2 : (if 4 < ys.length then (.inl 3 : Sum Int Int) else if 2147483647 < val 0 ys then .inl 3 else .inr (val 0 ys)) = .inl 3 := by
        rw [if_pos h1]
        split <;> rfl
      simp only [h2]
      simp [htt, hlin, hcall, a1, ev_loop, hl1, hl2, hL, hv]
    | false =>
      obtain ⟨h1, h2⟩ := valR_no ys 0 (by omega) hv
      have h4 : ¬ 4 < ys.length := by
        intro h4
        cases hys : ys with
        | nil => rw [hys] at h4; simp at h4
        | cons b t =>
          have hb0 := number_first hnum b t hys
          obtain ⟨b1, b2⟩ := hyb b (by rw [hys]; exact List.mem_cons_self ..)
          have h5 := val_big t b b1 (fun x hx => hyb x (by rw [hys]; exact List.mem_cons_of_mem _ hx))
          rw [hys] at h2 h4
          simp [val] at h2 h4
          have h6 : (256 : Int) ^ 4 ≤ 256 ^ t.length := by
            have := Nat.pow_le_pow_right (n := 256) (by omega) (show 4 ≤ t.length by omega)
            exact_mod_cast this
          have h7 : 1 * 256 ^ t.length ≤ b * 256 ^ t.length := Int.mul_le_mul_of_nonneg_right (by omega) (by omega)
          omega
      have h3 : ¬ 2147483647 < val 0 ys := by omega
      simp [htt, hlin, hcall, a1, ev_loop, hl1, hl2, hL, hv, h1, h4, h3]
end Go.Proofs.Ytmehkdomnhgmeaa
