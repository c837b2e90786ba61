/- What slices.Equal hands back, of names: for all names. -/
import Derived.Test.YtmehkdomnhgmeaaT1
import Derived.Test.YtmehkdomnhgmeaaVMT
namespace Go.Proofs.Ytmehkdomnhgmeaa
open Go Go.VM
set_option linter.unusedSimpArgs false
set_option linter.unusedVariables false
set_option maxRecDepth 100000
set_option maxHeartbeats 4000000

@[simp] theorem tt54 : env.tt 54 = some { k := (.slice 57), size := 1, bytes := 24, zero := [(.sl 2 true [])], cmp := false, eq := true } := rfl
@[simp] theorem tt57 : env.tt 57 = some { k := (.struct [(0, 3), (1, 9)]), size := 2, bytes := 24, zero := [(.int .i64 (0)), (.str [])], cmp := true, eq := true } := rfl

/-- A name's cells. -/
def rows (l : List (Int × List Int)) : List (List D) := l.map fun p => [.int .i64 p.1, .str p.2]
theorem rows_len (l : List (Int × List Int)) : (rows l).length = l.length := by simp [rows]
theorem rows_at {l : List (Int × List Int)} {i : Nat} {p : Int × List Int} {t : List (Int × List Int)} (h : l.drop i = p :: t) : (rows l)[i]? = some [.int .i64 p.1, .str p.2] := by
  have : (l.drop i)[0]? = some p := by rw [h]; rfl
  have : l[i]? = some p := by simpa using this
  simp [rows, this]
theorem drop_succ {α : Type} {l : List α} {i : Nat} {p : α} {t : List α} (h : l.drop i = p :: t) : l.drop (i + 1) = t ∧ i < l.length := by
  refine ⟨by rw [← List.drop_drop, h]; rfl, ?_⟩
  rcases Nat.lt_or_ge i l.length with h1 | h1
  · exact h1
  · rw [List.drop_eq_nil_of_le h1] at h; cases h
theorem drop_nil {α : Type} {l : List α} {i : Nat} (h : l.drop i = []) : l.length ≤ i := by simpa using h

theorem eq57 {C : Ctx} (htt : C.tt = env.tt) (ox oy : Operand) (k k' : Int) (s s' : List Int) : evEq C 57 ox oy (.d (.agg [.int .i64 k, .str s])) (.d (.agg [.int .i64 k', .str s'])) = some (decide (k = k' ∧ s = s')) := by
  have h57 : env.tt 57 = some { k := (.struct [(0, 3), (1, 9)]), size := 2, bytes := 24, zero := [(.int .i64 (0)), (.str [])], cmp := true, eq := true } := by rfl
  have h3 : env.tt 3 = some { k := (.int .i64), size := 1, bytes := 8, zero := [(.int .i64 (0))], cmp := true, eq := true } := by rfl
  have h9 : env.tt 9 = some { k := .str, size := 1, bytes := 16, zero := [(.str [])], cmp := true, eq := true } := by rfl
  have kk : (IntKind.i64 == IntKind.i64) = true := rfl
  have hs : (s == s') = decide (s = s') := by by_cases h : s = s' <;> simp [h]
  have hk : (k == k') = decide (k = k') := by by_cases h : k = k' <;> simp [h]
  by_cases h1 : k = k' <;> by_cases h2 : s = s' <;> simp [evEq, htt, h57, h3, h9, eqFuel, eqT, eqT.eqFs, eqT.part, TI.isAgg, h1, h2, kk, hs, hk]
theorem neq57 {C : Ctx} (htt : C.tt = env.tt) (ox oy : Operand) (k k' : Int) (s s' : List Int) : evBin C .neq 57 ox oy (.d (.agg [.int .i64 k, .str s])) (.d (.agg [.int .i64 k', .str s'])) = some (.bool (!decide (k = k' ∧ s = s'))) := by
  show notB (evEq C 57 ox oy _ _) = _
  rw [eq57 htt]; rfl
theorem eql57 {C : Ctx} (htt : C.tt = env.tt) (ox oy : Operand) (k k' : Int) (s s' : List Int) : evBin C .eql 57 ox oy (.d (.agg [.int .i64 k, .str s])) (.d (.agg [.int .i64 k', .str s'])) = some (.bool (decide (k = k' ∧ s = s'))) := by
  show yesB (evEq C 57 ox oy _ _) = _
  rw [eq57 htt]; rfl

theorem loop49 {C : Ctx} (htt : C.tt = env.tt) (hlin : C.lin = []) (hl6 : C.live 200006 = []) {fuel : Nat} {c : Code} (hc : loopAt 4 Try.f49 = some c) (na nb : Bool) (a b : List (Int × List Int)) (ha : a.length ≤ 140737488355328) (hab : a.length = b.length) :
    ∀ (us vs : List (Int × List Int)) (i k : Nat) (st : St), a.drop i = us → b.drop i = vs → i ≤ a.length → us.length < k →
      st.trim 0 [0, 1, 12, 13] = ⟨[(0, .d (.sl 2 na (rows a))), (1, .d (.sl 2 nb (rows b))), (12, .d (.int .i64 a.length)), (13, .d (.int .i64 i))], [], []⟩ →
      iter (ev C fuel c) 0 [0, 1, 12, 13] [4] k st = if us = vs then some (.exit 0, ⟨[], [], []⟩) else some (.ret, ⟨[(4, .d (.bool false))], [], []⟩) := by
  simp [loopAt, findLoop, Try.f49] at hc
  subst hc
  intro us
  induction us with
  | nil =>
    intro vs i k st hd hd' hi hk hst
    obtain ⟨k, rfl⟩ : ∃ j, k = j + 1 := ⟨k - 1, by simp at hk; omega⟩
    have h0 := drop_nil hd
    have hb : vs = [] := by rw [← hd', List.drop_eq_nil_of_le (by omega)]
    subst hb
    have e0 : ¬ ((i : Int) < (a.length : Int)) := by omega
    rw [iter_eq, hst]
    simp [htt, hlin, e0]
  | cons x us ih =>
    intro vs i k st hd hd' hi hk hst
    obtain ⟨k, rfl⟩ : ∃ j, k = j + 1 := ⟨k - 1, by simp at hk; omega⟩
    simp at hk
    obtain ⟨hd2, hlt⟩ := drop_succ hd
    cases vs with
    | nil => have := drop_nil hd'; omega
    | cons y vs =>
      obtain ⟨hd2', hlt'⟩ := drop_succ hd'
      have ra := rows_at hd
      have rb := rows_at hd'
      have e0 : (i : Int) < (a.length : Int) := by omega
      have e1 : (i : Int) + 1 ≤ 9223372036854775807 := by omega
      have e2 : (-9223372036854775808 : Int) ≤ (i : Int) + 1 := by omega
      obtain ⟨x1, x2⟩ := x
      obtain ⟨y1, y2⟩ := y
      rw [iter_eq, hst]
      by_cases h : x1 = y1 ∧ x2 = y2
      · have ih' := fun st h => ih vs (i + 1) k st hd2 hd2' (by omega) (by omega) h
        simp [htt, hlin, hl6, e0, e1, e2, ra, rb, neq57 (C := C.nolin) htt, h, ih']
      · have h' : ¬ (x1 = y1 ∧ x2 = y2) := h
        simp [htt, hlin, hl6, e0, e1, e2, ra, rb, neq57 (C := C.nolin) htt, h]

theorem t49 (fuel n : Nat) (na nb : Bool) (a b : List (Int × List Int)) (ha : a.length ≤ 140737488355328) (hf : a.length < fuel) :
    callN env fuel (n+1) 49 [.d (.sl 2 na (rows a)), .d (.sl 2 nb (rows b))] = some ⟨[.d (.bool (decide (a = b)))], []⟩ := by
  rw [callN_run (fn := Try.f49) rfl rfl rfl (by simp [Try.ntmps49])]
  generalize hC : env.ctx 49 (callN env fuel n) (callP env fuel n) = C
  have htt : C.tt = env.tt := by rw [← hC]; rfl
  have hlin : C.lin = [] := by rw [← hC]; rfl
  have hl1 : C.live 4 = [0, 1, 12, 13] := by rw [← hC]; rfl
  have hl2 : C.live 100004 = [4] := by rw [← hC]; rfl
  have hl6 : C.live 200006 = [] := by rw [← hC]; rfl
  by_cases hab : a.length = b.length
  · have hL := fun st h => @loop49 C htt hlin hl6 fuel _ rfl na nb a b ha hab a b 0 fuel st rfl rfl (by omega) hf h
    have e0 : (a.length : Int) = b.length := by omega
    by_cases h : a = b
    · simp [htt, hlin, ev_loop, hl1, hl2, hL, rows_len, e0, h]
    · simp [htt, hlin, ev_loop, hl1, hl2, hL, rows_len, e0, h]
  · have e0 : ¬ ((a.length : Int) = b.length) := by omega
    have h : ¬ a = b := fun e => hab (by rw [e])
    simp [htt, hlin, ev_loop, hl1, hl2, rows_len, e0, h]
end Go.Proofs.Ytmehkdomnhgmeaa
