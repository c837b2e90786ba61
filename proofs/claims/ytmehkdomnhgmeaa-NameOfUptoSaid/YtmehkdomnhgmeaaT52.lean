/- What prim.Text and the reference's Text hand back: for every row of bytes. -/
import Derived.Test.YtmehkdomnhgmeaaT49
import Derived.Test.YtmehkdomnhgmeaaVMT
namespace Go.Proofs.Ytmehkdomnhgmeaa
open Go Go.VM
set_option linter.unusedSimpArgs false
set_option linter.unusedVariables false
set_option maxRecDepth 100000
set_option maxHeartbeats 4000000

def odd (c : Int) : Bool := decide (c < 32 ∨ 126 < c)
def oddAt : List Int → Nat
  | [] => 0
  | c :: l => if odd c then 0 else oddAt l + 1
/-- What is amiss with a text. -/
def textBad (s : List Int) : Int := if 64 < s.length then 2 else if s = [] then 7 else if s.any odd then 7 else 0

theorem at_of_drop {α : Type} {l : List α} {i : Nat} {p : α} {t : List α} (h : l.drop i = p :: t) : l[i]? = some p := by
  have : (l.drop i)[0]? = some p := by rw [h]; rfl
  simpa using this

theorem loop52 {C : Ctx} (htt : C.tt = env.tt) (hlin : C.lin = []) {fuel : Nat} {c : Code} (hc : loopAt 6 Try.f52 = some c) (nl : Bool) (s : List Int) (hs : s.length ≤ 9223372036854775807) :
    ∀ (us : List Int) (i k : Nat) (st : St), s.drop i = us → i ≤ s.length → us.length < k → st.trim 0 [0, 4] = ⟨[(0, .d (.nums .u8 nl s)), (4, .d (.int .i64 i))], [], []⟩ →
      iter (ev C fuel c) 0 [0, 4] [0, 2, 3] k st = if us.any odd then some (.ret, ⟨[(0, .d (.nums .u8 nl s)), (2, .d (.str [])), (3, .d (.int .i64 7))], [], []⟩) else some (.exit 0, ⟨[(0, .d (.nums .u8 nl s))], [], []⟩) := by
  simp [loopAt, findLoop, Try.f52] at hc
  subst hc
  intro us
  induction us with
  | nil =>
    intro i k st hd hi hk hst
    obtain ⟨k, rfl⟩ : ∃ j, k = j + 1 := ⟨k - 1, by simp at hk; omega⟩
    have h0 := drop_nil hd
    have e0 : ¬ ((i : Int) < (s.length : Int)) := by omega
    rw [iter_eq, hst]
    simp [htt, bytesI, hlin, e0]
  | cons x us ih =>
    intro i k st hd hi hk hst
    obtain ⟨k, rfl⟩ : ∃ j, k = j + 1 := ⟨k - 1, by simp at hk; omega⟩
    simp at hk
    obtain ⟨hd2, hlt⟩ := drop_succ hd
    have ra := at_of_drop hd
    have e0 : (i : Int) < (s.length : Int) := by omega
    have e1 : (i : Int) + 1 ≤ 9223372036854775807 := by omega
    have e2 : (-9223372036854775808 : Int) ≤ (i : Int) + 1 := by omega
    have ih' := fun st h => ih (i + 1) k st hd2 (by omega) hk h
    rw [iter_eq, hst]
    by_cases h1 : x < 32
    · simp [htt, bytesI, hlin, e0, e1, e2, ra, h1, odd]
    · by_cases h2 : 126 < x
      · simp [htt, bytesI, hlin, e0, e1, e2, ra, h1, h2, odd]
      · have ho : odd x = false := by simp [odd]; omega
        simp [htt, bytesI, hlin, e0, e1, e2, ra, h1, h2, ho, ih']

theorem t52 (fuel n : Nat) (nl : Bool) (s : List Int) (hs : s.length ≤ 9223372036854775807) (hf : 64 < fuel) :
    callN env fuel (n+1) 52 [.d (.nums .u8 nl s)] = some (if textBad s = 0 then ⟨[.d (.str s), .d (.int .i64 0)], []⟩ else ⟨[.d (.str []), .d (.int .i64 (textBad s))], []⟩) := by
  rw [callN_run (fn := Try.f52) rfl rfl rfl (by simp [Try.ntmps52])]
  generalize hC : env.ctx 52 (callN env fuel n) (callP env fuel n) = C
  have htt : C.tt = env.tt := by rw [← hC]; rfl
  have hlin : C.lin = [] := by rw [← hC]; rfl
  have hl1 : C.live 6 = [0, 4] := by rw [← hC]; rfl
  have hl2 : C.live 100006 = [0, 2, 3] := by rw [← hC]; rfl
  unfold textBad
  by_cases h1 : 64 < s.length
  · have e1 : (64 : Int) < s.length := by omega
    simp [htt, bytesI, hlin, h1, e1]
  · have e1 : ¬ ((64 : Int) < s.length) := by omega
    by_cases h2 : s = []
    · subst h2
      simp [htt, bytesI, hlin]
    · have h3 : ¬ ((s.length : Int) = 0) := by
        intro h; apply h2; apply List.length_eq_zero_iff.1; omega
      have hL := fun st h => @loop52 C htt hlin fuel _ rfl nl s hs s 0 fuel st rfl (by omega) (by omega) h
      cases ho : s.any odd with
      | true => simp [htt, bytesI, hlin, ev_loop, hl1, hl2, h1, e1, h2, h3, hL, ho]
      | false => simp [htt, bytesI, hlin, ev_loop, hl1, hl2, h1, e1, h2, h3, hL, ho]

theorem t46 (fuel n : Nat) (c : Int) : callN env fuel (n+1) 46 [.d (.int .u8 c)] = some ⟨[.d (.bool (odd c))], []⟩ := by
  rw [callN_run (fn := Try.f46) rfl rfl rfl (by simp [Try.ntmps46])]
  generalize hC : env.ctx 46 (callN env fuel n) (callP env fuel n) = C
  have htt : C.tt = env.tt := by rw [← hC]; rfl
  have hlin : C.lin = [] := by rw [← hC]; rfl
  unfold odd
  by_cases h1 : c < 32
  · simp [htt, bytesI, hlin, h1]
  · by_cases h2 : 126 < c
    · simp [htt, bytesI, hlin, h1, h2]
    · simp [htt, bytesI, hlin, h1, h2]

theorem loop59 {C : Ctx} (htt : C.tt = env.tt) (hlin : C.lin = []) {fuel m : Nat} (hcall : C.call = callN env fuel (m+1)) {c : Code} (hc : loopAt 2 Try.f59 = some c) (nl : Bool) (s : List Int) (hs : s.length ≤ 9223372036854775807) :
    ∀ (us : List Int) (i k : Nat) (st : St), s.drop i = us → i ≤ s.length → us.length < k → st.trim 0 [0, 1, 7, 8] = ⟨[(0, .d (.nums .u8 nl s)), (1, .fn 46 []), (7, .d (.int .i64 s.length)), (8, .d (.int .i64 i))], [], []⟩ →
      iter (ev C fuel c) 0 [0, 1, 7, 8] [4] k st = if us.any odd then some (.ret, ⟨[(4, .d (.int .i64 (i + oddAt us : Nat)))], [], []⟩) else some (.exit 0, ⟨[], [], []⟩) := by
  simp [loopAt, findLoop, Try.f59] at hc
  subst hc
  intro us
  induction us with
  | nil =>
    intro i k st hd hi hk hst
    obtain ⟨k, rfl⟩ : ∃ j, k = j + 1 := ⟨k - 1, by simp at hk; omega⟩
    have h0 := drop_nil hd
    have e0 : ¬ ((i : Int) < (s.length : Int)) := by omega
    rw [iter_eq, hst]
    simp [htt, bytesI, hlin, e0]
  | cons x us ih =>
    intro i k st hd hi hk hst
    obtain ⟨k, rfl⟩ : ∃ j, k = j + 1 := ⟨k - 1, by simp at hk; omega⟩
    simp at hk
    obtain ⟨hd2, hlt⟩ := drop_succ hd
    have ra := at_of_drop hd
    have e0 : (i : Int) < (s.length : Int) := by omega
    have e1 : (i : Int) + 1 ≤ 9223372036854775807 := by omega
    have e2 : (-9223372036854775808 : Int) ≤ (i : Int) + 1 := by omega
    have ih' := fun st h => ih (i + 1) k st hd2 (by omega) hk h
    rw [iter_eq, hst]
    cases ho : odd x with
    | true => simp [htt, bytesI, hlin, hcall, e0, e1, e2, ra, t46, ho, oddAt]
    | false =>
      rw [show i + 1 + oddAt us = i + (oddAt us + 1) by omega] at ih'
      simp [htt, bytesI, hlin, hcall, e0, e1, e2, ra, t46, ho, oddAt, ih']

theorem oddAt_le (s : List Int) : oddAt s ≤ s.length := by
  induction s with
  | nil => simp [oddAt]
  | cons c l ih => unfold oddAt; split <;> simp <;> omega

theorem t59 (fuel n : Nat) (nl : Bool) (s : List Int) (hs : s.length ≤ 9223372036854775807) (hf : s.length < fuel) :
    callN env fuel (n+2) 59 [.d (.nums .u8 nl s), .fn 46 []] = some ⟨[.d (.int .i64 (if s.any odd then oddAt s else -1))], []⟩ := by
  rw [callN_run (fn := Try.f59) rfl rfl rfl (by simp [Try.ntmps59])]
  generalize hC : env.ctx 59 (callN env fuel (n+1)) (callP env fuel (n+1)) = C
  have htt : C.tt = env.tt := by rw [← hC]; rfl
  have hlin : C.lin = [] := by rw [← hC]; rfl
  have hcall : C.call = callN env fuel (n+1) := by rw [← hC]; rfl
  have hl1 : C.live 2 = [0, 1, 7, 8] := by rw [← hC]; rfl
  have hl2 : C.live 100002 = [4] := by rw [← hC]; rfl
  have hL := fun st h => @loop59 C htt hlin fuel n hcall _ rfl nl s hs s 0 fuel st rfl (by omega) hf h
  cases ho : s.any odd with
  | true => simp [htt, bytesI, hlin, hcall, ev_loop, hl1, hl2, hL, ho]
  | false => simp [htt, bytesI, hlin, hcall, ev_loop, hl1, hl2, hL, ho]

theorem t45 (fuel n : Nat) (nl : Bool) (s : List Int) (hs : s.length ≤ 9223372036854775807) (hf : s.length < fuel) :
    callN env fuel (n+3) 45 [.d (.nums .u8 nl s), .fn 46 []] = some ⟨[.d (.bool (s.any odd))], []⟩ := by
  rw [callN_run (fn := Try.f45) rfl rfl rfl (by simp [Try.ntmps45])]
  generalize hC : env.ctx 45 (callN env fuel (n+2)) (callP env fuel (n+2)) = C
  have htt : C.tt = env.tt := by rw [← hC]; rfl
  have hlin : C.lin = [] := by rw [← hC]; rfl
  have hcall : C.call = callN env fuel (n+2) := by rw [← hC]; rfl
  have k := t59 fuel n nl s hs hf
  cases ho : s.any odd with
  | true => simp [ho] at k; simp [htt, bytesI, hlin, hcall, k, ho]
  | false => simp [ho] at k; simp [htt, bytesI, hlin, hcall, k, ho]

theorem t28 (fuel n : Nat) (nl : Bool) (s : List Int) (hs : s.length ≤ 9223372036854775807) (hf : 64 < fuel) :
    callN env fuel (n+4) 28 [.d (.nums .u8 nl s)] = some (if textBad s = 0 then ⟨[.d (.str s), .d .nilifc], []⟩ else ⟨[.d (.str []), .d (err (textBad s))], []⟩) := by
  rw [callN_run (fn := Try.f28) rfl rfl rfl (by simp [Try.ntmps28])]
  generalize hC : env.ctx 28 (callN env fuel (n+3)) (callP env fuel (n+3)) = C
  have htt : C.tt = env.tt := by rw [← hC]; rfl
  have hlin : C.lin = [] := by rw [← hC]; rfl
  have hcall : C.call = callN env fuel (n+3) := by rw [← hC]; rfl
  unfold textBad err
  by_cases h1 : 64 < s.length
  · have e1 : (64 : Int) < s.length := by omega
    simp [htt, bytesI, hlin, h1, e1]
  · have e1 : ¬ ((64 : Int) < s.length) := by omega
    by_cases h2 : s = []
    · subst h2
      simp [htt, bytesI, hlin]
    · have h3 : ¬ ((s.length : Int) = 0) := by
        intro h; apply h2; apply List.length_eq_zero_iff.1; omega
      have k := t45 fuel n nl s hs (by omega)
      cases ho : s.any odd with
      | true => simp [ho] at k; simp [htt, bytesI, hlin, hcall, h1, e1, h2, h3, k, ho]
      | false => simp [ho] at k; simp [htt, bytesI, hlin, hcall, h1, e1, h2, h3, k, ho]

def isKind (k : Int) : Bool := decide (k = 3 ∨ k = 6 ∨ k = 10 ∨ k = 11)
theorem t51 (fuel n : Nat) (k : Int) : callN env fuel (n+1) 51 [.d (.int .i64 k)] = some ⟨[.d (.bool (isKind k))], []⟩ := by
  rw [callN_run (fn := Try.f51) rfl rfl rfl (by simp [Try.ntmps51])]
  generalize hC : env.ctx 51 (callN env fuel n) (callP env fuel n) = C
  have htt : C.tt = env.tt := by rw [← hC]; rfl
  have hlin : C.lin = [] := by rw [← hC]; rfl
  unfold isKind
  by_cases h1 : k = 3
  · simp [htt, bytesI, hlin, h1]
  · by_cases h2 : k = 6
    · simp [htt, bytesI, hlin, h1, h2]
    · by_cases h3 : k = 10
      · simp [htt, bytesI, hlin, h1, h2, h3]
      · simp [htt, bytesI, hlin, h1, h2, h3]
theorem t53 (fuel n : Nat) (k : Int) : callN env fuel (n+1) 53 [.d (.int .i64 k)] = some ⟨[.d (.bool (isKind k))], []⟩ := by
  rw [callN_run (fn := Try.f53) rfl rfl rfl (by simp [Try.ntmps53])]
  generalize hC : env.ctx 53 (callN env fuel n) (callP env fuel n) = C
  have htt : C.tt = env.tt := by rw [← hC]; rfl
  have hlin : C.lin = [] := by rw [← hC]; rfl
  unfold isKind
  by_cases h1 : k = 3
  · simp [htt, bytesI, hlin, h1]
  · by_cases h2 : k = 6
    · simp [htt, bytesI, hlin, h1, h2]
    · by_cases h3 : k = 10
      · simp [htt, bytesI, hlin, h1, h2, h3]
      · simp [htt, bytesI, hlin, h1, h2, h3]
end Go.Proofs.Ytmehkdomnhgmeaa
