/- What prim.Oid hands back: for every row of bytes of some size. -/
import Derived.Test.YtmehkdomnhgmeaaT44
namespace Go.Proofs.Ytmehkdomnhgmeaa
open Go Go.VM
set_option linter.unusedSimpArgs false
set_option linter.unusedVariables false
set_option maxRecDepth 100000
set_option maxHeartbeats 4000000

def rangeBad : Nat → List Int → Bool
  | _, [] => false
  | i, x :: t => decide (4294967375 < x ∨ (0 < i ∧ 4294967295 < x)) || rangeBad (i + 1) t

def oidOf (s : List Int) : Sum Int (List Int) :=
  match arcs s 0 true [] with
  | some (l0 :: t, true) => if rangeBad 0 (l0 :: t) then .inl 3 else if 16 < t.length + 2 then .inl 2 else .inr (min (l0 / 40) 2 :: (l0 - 40 * min (l0 / 40) 2) :: t)
  | _ => .inl 7

theorem arcs_range : ∀ (us : List Int) (v : Int) (b : Bool) (out : List Int) (o : List Int) (b' : Bool), 0 ≤ v → (∀ x ∈ out, 0 ≤ x ∧ x ≤ 1099511627776) → arcs us v b out = some (o, b') → ∀ x ∈ o, 0 ≤ x ∧ x ≤ 1099511627776
  | [], v, b, out, o, b', hv, ho, h => by simp [arcs] at h; rw [← h.1]; exact ho
  | x :: us, v, b, out, o, b', hv, ho, h => by
    simp only [arcs] at h
    split at h
    · cases h
    · have hm : 0 ≤ min (v * 128 + x % 128) 1099511627776 := by omega
      split at h
      · refine arcs_range us _ _ _ _ _ (by omega) (fun y hy => ?_) h
        rw [List.mem_append] at hy
        rcases hy with hy | hy
        · exact ho y hy
        · simp at hy; subst hy; omega
      · exact arcs_range us _ _ _ _ _ hm ho h

theorem loop27 {C : Ctx} (htt : C.tt = env.tt) (hlin : C.lin = [49]) {fuel : Nat} {c : Code} (hc : loopAt 5 Try.f27 = some c) (l : List Int) (hs : l.length ≤ 1000000) :
    ∀ (us : List Int) (i k : Nat) (st : St), l.drop i = us → i ≤ l.length → us.length < k →
      st.trim 0 [4, 18, 19, 20] = ⟨[(4, .d (.nums .u64 false l)), (18, .d (.nums .u64 false l)), (19, .d (.int .i64 l.length)), (20, .d (.int .i64 i))], [], []⟩ →
      iter (ev C fuel c) 0 [4, 18, 19, 20] [2, 3, 4] k st = if rangeBad i us then some (.ret, ⟨[(2, .d (.nums .u64 true [])), (3, .d (err 3)), (4, .d (.nums .u64 false l))], [], []⟩) else some (.exit 0, ⟨[(4, .d (.nums .u64 false l))], [], []⟩) := by
  simp [loopAt, findLoop, Try.f27] at hc
  subst hc
  intro us
  induction us with
  | nil =>
    intro i k st hd hi hk hst
    obtain ⟨k, rfl⟩ : ∃ j, k = j + 1 := ⟨k - 1, by simp at hk; omega⟩
    have h0 := drop_nil hd
    have e0 : ¬ ((i : Int) < (l.length : Int)) := by omega
    rw [iter_eq, hst]
    simp [htt, hlin, e0, rangeBad]
  | cons x us ih =>
    intro i k st hd hi hk hst
    obtain ⟨k, rfl⟩ : ∃ j, k = j + 1 := ⟨k - 1, by simp at hk; omega⟩
    simp at hk
    obtain ⟨hd2, hlt⟩ := drop_succ hd
    have ra := at_of_drop hd
    have e0 : (i : Int) < (l.length : Int) := by omega
    have e1 : (i : Int) + 1 ≤ 9223372036854775807 := by omega
    have e2 : (-9223372036854775808 : Int) ≤ (i : Int) + 1 := by omega
    have ih' := fun st h => ih (i + 1) k st hd2 (by omega) hk h
    simp only [rangeBad]
    unfold err at ih' ⊢
    rw [iter_eq, hst]
    by_cases h1 : 4294967375 < x
    · simp [htt, hlin, e0, e1, e2, ra, h1]
    · by_cases h2 : 0 < i
      · by_cases h3 : 4294967295 < x
        · simp [htt, hlin, e0, e1, e2, ra, h1, h2, h3]
        · simp [htt, hlin, e0, e1, e2, ra, h1, h2, h3, ih']
      · simp [htt, hlin, e0, e1, e2, ra, h1, h2, ih']

theorem t27 (fuel n : Nat) (nl : Bool) (s : List Int) (hs : s.length ≤ 1000000) (hb : ∀ x ∈ s, 0 ≤ x ∧ x < 256) (hf : s.length < fuel) :
    callN env fuel (n+2) 27 [.d (.nums .u8 nl s)] = some (match oidOf s with
    | .inl e => ⟨[.d (.nums .u64 true []), .d (err e)], []⟩
    | .inr o => ⟨[.d (.nums .u64 false o), .d .nilifc], []⟩) := by
  rw [callN_run (fn := Try.f27) rfl rfl rfl (by simp [Try.ntmps27])]
  generalize hC : env.ctx 27 (callN env fuel (n+1)) (callP env fuel (n+1)) = C
  have htt : C.tt = env.tt := by rw [← hC]; rfl
  have hlin : C.lin = [49] := by rw [← hC]; rfl
  have hcall : C.call = callN env fuel (n+1) := by rw [← hC]; rfl
  have hl1 : C.live 5 = [4, 18, 19, 20] := by rw [← hC]; rfl
  have hl2 : C.live 100005 = [2, 3, 4] := by rw [← hC]; rfl
  have hl11 : C.live 200011 = [] := by rw [← hC]; rfl
  have k1 := t44 fuel n nl s hs hb hf
  unfold oidOf
  cases hr : arcs s 0 true [] with
  | none =>
    rw [hr] at k1
    unfold err
    simp [htt, hlin, hcall, k1]
  | some r =>
    obtain ⟨l, b⟩ := r
    rw [hr] at k1
    cases l with
    | nil =>
      unfold err
      simp [htt, hlin, hcall, k1]
    | cons l0 t =>
      cases b with
      | false =>
        unfold err
        simp [htt, hlin, hcall, k1]
      | true =>
        have hrng := arcs_range s 0 true [] _ _ (by omega) (by simp) hr
        have hlen := arcs_len s 0 true [] _ _ hr
        simp at hlen
        obtain ⟨a0, a1⟩ := hrng l0 (List.mem_cons_self ..)
        have hL := fun st h => @loop27 C htt hlin fuel _ rfl (l0 :: t) (by simp; omega) (l0 :: t) 0 fuel st rfl (by omega) (by simp; omega) h
        simp at k1
        cases hbad : rangeBad 0 (l0 :: t) with
        | true =>
          rw [hbad] at hL
          unfold err at hL ⊢
          simp at hL
          simp [htt, hlin, hcall, ev_loop, hl1, hl2, hL, k1, hbad]
        | false =>
          rw [hbad] at hL
          simp at hL
          have q1 : l0.tdiv 40 = l0 / 40 := Int.tdiv_eq_ediv_of_nonneg a0
          have q2 : 0 ≤ l0 / 40 := by omega
          have q3 : l0 / 40 ≤ 18446744073709551615 := by omega
          have mi : minI (l0 / 40) 2 = min (l0 / 40) 2 := by
            unfold minI
            by_cases h : 2 < l0 / 40
            · simp [h]; omega
            · simp [h]; omega
          generalize hmn : min (l0 / 40) 2 = mn at *
          have m0 : 0 ≤ 40 * mn := by omega
          have m1 : 40 * mn ≤ 18446744073709551615 := by omega
          have m2 : 0 ≤ l0 - 40 * mn := by omega
          have m3 : l0 - 40 * mn ≤ 18446744073709551615 := by omega
          have e1 : (1 : Int) ≤ (t.length : Int) + 1 := by omega
          have r1 : (2 + t.length) * 8 ≤ 140737488355328 := by omega
          have r2 : 2 + t.length ≤ 140737488355328 := by omega
          have r3 : (1 + 1 + t.length) * 8 ≤ 140737488355328 := by omega
          have r4 : 1 + 1 + t.length ≤ 140737488355328 := by omega
          unfold err
          by_cases h16 : 16 < t.length + 2
          · have e2 : (16 : Int) < (t.length : Int) + 1 + 1 := by omega
            simp [htt, hlin, hcall, ev_loop, hl1, hl2, hl11, hL, k1, hbad, q1, q2, q3, mi, hmn, m0, m1, m2, m3, e1, r1, r2, r3, r4, e2, h16]
          · have e2 : ¬ ((16 : Int) < (t.length : Int) + 1 + 1) := by omega
            simp [htt, hlin, hcall, ev_loop, hl1, hl2, hl11, hL, k1, hbad, q1, q2, q3, mi, hmn, m0, m1, m2, m3, e1, r1, r2, r3, r4, e2, h16]
            exact wrap_ok (by simp; omega) (by simp; omega)
end Go.Proofs.Ytmehkdomnhgmeaa
