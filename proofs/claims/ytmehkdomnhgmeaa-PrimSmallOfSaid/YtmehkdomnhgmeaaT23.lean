/- What prim.Small hands back: for every input. -/
import Derived.Test.YtmehkdomnhgmeaaT5
import Derived.Test.YtmehkdomnhgmeaaVM32
namespace Go.Proofs.Ytmehkdomnhgmeaa
open Go Go.VM
set_option linter.unusedSimpArgs false
set_option linter.unusedVariables false
set_option maxRecDepth 100000
set_option maxHeartbeats 4000000

/-- The number that bytes are. -/
def val (v : Int) : List Int → Int
  | [] => v
  | x :: t => val (v * 256 + x) t

theorem loop23 {C : Ctx} (htt : C.tt = env.tt) (hlin : C.lin = []) {fuel : Nat} {c : Code} (hc : loopAt 8 Try.f23 = some c) (nl : Bool) (ys : List Int) (hy : ys.length ≤ 4) :
    ∀ (rest : List Int) (i k : Nat) (v : Int) (st : St), ys.drop i = rest → i ≤ ys.length → (∀ x ∈ rest, 0 ≤ x ∧ x < 256) → 0 ≤ v → v < 256 ^ i → rest.length < k →
      st.trim 0 [6, 21, 22, 23] = ⟨[(6, .d (.int .i64 v)), (21, .d (.nums .u8 nl ys)), (22, .d (.int .i64 ys.length)), (23, .d (.int .i64 i))], [], []⟩ →
      iter (ev C fuel c) 0 [6, 21, 22, 23] [2, 3, 6] k st = some (.exit 0, ⟨[(6, .d (.int .i64 (val v rest)))], [], []⟩) := by
  simp [loopAt, findLoop, Try.f23] at hc
  subst hc
  intro rest
  induction rest with
  | nil =>
    intro i k v st hd hi hb h0 hv hk hst
    obtain ⟨k, rfl⟩ : ∃ j, k = j + 1 := ⟨k - 1, by simp at hk; omega⟩
    have h0 : ys.length ≤ i := by simpa using hd
    have e0 : ¬ ((i : Int) < (ys.length : Int)) := by omega
    rw [iter_eq, hst]
    simp [htt, hlin, e0, val]
  | cons b t ih =>
    intro i k v st hd hi hb h0 hv hk hst
    obtain ⟨k, rfl⟩ : ∃ j, k = j + 1 := ⟨k - 1, by simp at hk; omega⟩
    simp at hk
    have h1 : i < ys.length := by
      rcases Nat.lt_or_ge i ys.length with h | h
      · exact h
      · rw [List.drop_eq_nil_of_le h] at hd; cases hd
    have hbx : ys[i]? = some b := by
      have : (ys.drop i)[0]? = some b := by rw [hd]; rfl
      simpa using this
    have ht : ys.drop (i + 1) = t := by
      rw [← List.drop_drop, hd]; rfl
    obtain ⟨b0, b1⟩ := hb b (List.mem_cons_self ..)
    have hv2 : v < 256 ^ 3 := by
      have : (256 : Int) ^ i ≤ 256 ^ 3 := by
        have h3 : i ≤ 3 := by omega
        have := Nat.pow_le_pow_right (n := 256) (by omega) h3
        exact_mod_cast this
      omega
    have hv3 : v * 256 + b < 256 ^ (i + 1) := by
      rw [Int.pow_succ]; omega
    have e0 : (i : Int) < (ys.length : Int) := by omega
    have e1 : (i : Int) + 1 ≤ 9223372036854775807 := by omega
    have e2 : (-9223372036854775808 : Int) ≤ (i : Int) + 1 := by omega
    have e3 : (-9223372036854775808 : Int) ≤ v * 256 := by omega
    have e4 : v * 256 ≤ (9223372036854775807 : Int) := by omega
    have e5 : (-9223372036854775808 : Int) ≤ b := by omega
    have e6 : b ≤ (9223372036854775807 : Int) := by omega
    have ho := or_byte (v := v) (x := b) h0 (by omega) b0 b1
    rw [iter_eq, hst]
    have ih' := fun st h => ih (i + 1) k (v * 256 + b) st ht (by omega) (fun x hx => hb x (List.mem_cons_of_mem _ hx)) (by omega) hv3 hk h
    simp [htt, hlin, e0, hbx, e1, e2, e3, e4, e5, e6, ho, ih', val]

/-- The small number of a body, or what is amiss. -/
def small (xs : List Int) : Sum Int Int :=
  match number xs with
  | .inl e => .inl e
  | .inr ys => if 4 < ys.length then .inl 3 else if 2147483647 < val 0 ys then .inl 3 else .inr (val 0 ys)

theorem number_mem {xs ys : List Int} (h : number xs = .inr ys) : ∀ x ∈ ys, x ∈ xs := by
  unfold number at h
  repeat' split at h
  all_goals first | (cases h; done) | skip
  all_goals (cases h; intro x hx; simp_all)
theorem number_bytes {xs ys : List Int} (h : number xs = .inr ys) (hb : ∀ x ∈ xs, 0 ≤ x ∧ x < 256) : ∀ x ∈ ys, 0 ≤ x ∧ x < 256 :=
  fun x hx => hb x (number_mem h x hx)

theorem t23 (fuel n : Nat) (nl : Bool) (xs : List Int) (hn : nl = true → xs = []) (hb : ∀ x ∈ xs, 0 ≤ x ∧ x < 256) : callN env (fuel + 100) (n+3) 23 [.d (.nums .u8 nl xs)] = some (match small xs with
    | .inl e => ⟨[.d (.int .i64 0), .d (err e)], []⟩
    | .inr v => ⟨[.d (.int .i64 v), .d .nilifc], []⟩) := by
  rw [callN_run (fn := Try.f23) rfl rfl rfl (by simp [Try.ntmps23])]
  generalize hC : env.ctx 23 (callN env (fuel + 100) (n+2)) = C
  have htt : C.tt = env.tt := by rw [← hC]; rfl
  have hlin : C.lin = [] := by rw [← hC]; rfl
  have hcall : C.call = callN env (fuel + 100) (n+2) := by rw [← hC]; rfl
  have hl1 : C.live 8 = [6, 21, 22, 23] := by rw [← hC]; rfl
  have hl2 : C.live 100008 = [2, 3, 6] := by rw [← hC]; rfl
  have a1 := t19 (fuel + 100) n nl xs hn
  unfold small
  cases hnum : number xs with
  | inl e =>
    rw [hnum] at a1
    unfold err at a1
    simp [htt, hlin, hcall, a1, err]
  | inr ys =>
    rw [hnum] at a1
    by_cases h4 : 4 < ys.length
    · have e4 : (4 : Int) < (ys.length : Int) := by omega
      simp [htt, hlin, hcall, a1, err, h4, e4]
    · have e4 : ¬ (4 : Int) < (ys.length : Int) := by omega
      have hL := fun st h => @loop23 C htt hlin (fuel + 100) _ rfl false ys (by omega) ys 0 (fuel + 100) 0 st rfl (by omega) (number_bytes hnum hb) (by omega) (by simp) (by omega) h
      by_cases hv : 2147483647 < val 0 ys
      · simp [htt, hlin, hcall, a1, err, h4, e4, ev_loop, hl1, hl2, hL, hv]
      · simp [htt, hlin, hcall, a1, err, h4, e4, ev_loop, hl1, hl2, hL, hv]
end Go.Proofs.Ytmehkdomnhgmeaa
