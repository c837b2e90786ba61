/- What prim's arcs hands back: for every row of bytes. -/
import Derived.Test.YtmehkdomnhgmeaaT54
import Derived.Test.YtmehkdomnhgmeaaT16
namespace Go.Proofs.Ytmehkdomnhgmeaa
open Go Go.VM
set_option linter.unusedSimpArgs false
set_option linter.unusedVariables false
set_option maxRecDepth 100000
set_option maxHeartbeats 4000000

theorem or_seven {v y : Int} (h0 : 0 ≤ v) (h1 : v ≤ 1099511627776) (h2 : 0 ≤ y) (h3 : y < 128) : orI .u64 (v * 128) y = v * 128 + y := by
  have hq : orI .u64 (v * 128) y = IntKind.u64.wrap ((BitVec.ofInt 64 (v * 128) ||| BitVec.ofInt 64 y).toNat : Int) := rfl
  rw [hq, BitVec.toNat_or, ofInt_toNat (by omega) (by omega), ofInt_toNat h2 (by omega)]
  obtain ⟨n, rfl⟩ := Int.eq_ofNat_of_zero_le h0
  obtain ⟨m, rfl⟩ := Int.eq_ofNat_of_zero_le h2
  have e1 : ((n : Int) * 128).toNat = 2 ^ 7 * n := by omega
  rw [e1, Int.toNat_natCast, ← Nat.two_pow_add_eq_or_of_lt (by omega : m < 2 ^ 7)]
  rw [wrap_ok (by simp; omega) (by simp; omega)]
  omega

/-- An identifier's numbers: those that are done, the one under way, whether one begins. -/
def arcs : List Int → Int → Bool → List Int → Option (List Int × Bool)
  | [], _, b, out => some (out, b)
  | x :: l, v, b, out => if b = true ∧ x = 128 then none else
    if x < 128 then arcs l 0 true (out ++ [min (v * 128 + x % 128) 1099511627776]) else arcs l (min (v * 128 + x % 128) 1099511627776) false out

def ownA (l : List Int) : List Pl := match l with | [] => [] | _ => [.t 4]

theorem pick_arc {r : Option (List Int × Bool)} {o : List Int} {b : Bool} {X : List Int → Bool → Prop} {Y : Prop} (hr : r = some (o, b)) (h : (∃ o' b', r = some (o', b') ∧ X o' b') ∨ (r = none ∧ Y)) : X o b := by
  subst hr
  rcases h with ⟨o', b', h1, h2⟩ | ⟨h1, _⟩
  · cases h1; exact h2
  · cases h1
theorem pick_none {r : Option (List Int × Bool)} {X : List Int → Bool → Prop} {Y : Prop} (hr : r = none) (h : (∃ o' b', r = some (o', b') ∧ X o' b') ∨ (r = none ∧ Y)) : Y := by
  subst hr
  rcases h with ⟨o', b', h1, h2⟩ | ⟨_, h1⟩
  · cases h1
  · exact h1

theorem loop44 {C : Ctx} (htt : C.tt = env.tt) (hlin : C.lin = [4, 30]) {fuel : Nat} {c : Code} (hc : loopAt 5 Try.f44 = some c) (nl : Bool) (s : List Int) (hs : s.length ≤ 1000000) (hb : ∀ x ∈ s, 0 ≤ x ∧ x < 256) :
    ∀ (us : List Int) (i k : Nat) (v : Int) (b : Bool) (out : List Int) (st : St), s.drop i = us → i ≤ s.length → us.length < k → out.length + us.length ≤ 1000000 → 0 ≤ v → v ≤ 1099511627776 →
      st.trim 0 [4, 5, 6, 9, 10, 11] = ⟨[(4, .d (.nums .u64 out.isEmpty out)), (5, .d (.int .u64 v)), (6, .d (.bool b)), (9, .d (.nums .u8 nl s)), (10, .d (.int .i64 s.length)), (11, .d (.int .i64 i))], [], ownA out⟩ →
      (∃ o b', arcs us v b out = some (o, b') ∧ iter (ev C fuel c) 0 [4, 5, 6, 9, 10, 11] [2, 3, 4, 6] k st = some (.exit 0, ⟨[(4, .d (.nums .u64 o.isEmpty o)), (6, .d (.bool b'))], [], ownA o⟩)) ∨
      (arcs us v b out = none ∧ ∃ (o : List Int) (u : V), iter (ev C fuel c) 0 [4, 5, 6, 9, 10, 11] [2, 3, 4, 6] k st = some (.ret, ⟨[(2, .d (.nums .u64 true [])), (3, .d (.bool false)), (4, .d (.nums .u64 o.isEmpty o)), (6, u)], [], ownA o⟩)) := by
  simp [loopAt, findLoop, Try.f44] at hc
  subst hc
  intro us
  induction us with
  | nil =>
    intro i k v b out st hd hi hk hm hv0 hv1 hst
    obtain ⟨k, rfl⟩ : ∃ j, k = j + 1 := ⟨k - 1, by simp at hk; omega⟩
    have h0 := drop_nil hd
    have e0 : ¬ ((i : Int) < (s.length : Int)) := by omega
    left
    refine ⟨out, b, rfl, ?_⟩
    rw [iter_eq, hst]
    cases out with
    | nil => simp [htt, hlin, e0, ownA]
    | cons y out => simp [htt, hlin, e0, ownA]
  | cons x us ih =>
    intro i k v b out st hd hi hk hm hv0 hv1 hst
    obtain ⟨k, rfl⟩ : ∃ j, k = j + 1 := ⟨k - 1, by simp at hk; omega⟩
    simp at hk hm
    obtain ⟨hd2, hlt⟩ := drop_succ hd
    have ra := at_of_drop hd
    have hx : x ∈ s := List.mem_of_getElem? ra
    obtain ⟨x0, x1⟩ := hb x hx
    have e0 : (i : Int) < (s.length : Int) := by omega
    have e1 : (i : Int) + 1 ≤ 9223372036854775807 := by omega
    have e2 : (-9223372036854775808 : Int) ≤ (i : Int) + 1 := by omega
    have a1 : andI .u8 x 127 = x % 128 := by
      have := and_low (l := x) x0 x1 7 (by omega)
      simpa using this
    have w1 : v * 128 ≤ 18446744073709551615 := by omega
    have w2 : 0 ≤ v * 128 := by omega
    have w3 : 0 ≤ x % 128 := by omega
    have w4 : x % 128 ≤ 18446744073709551615 := by omega
    have o1 : orI .u64 (v * 128) (x % 128) = v * 128 + x % 128 := or_seven hv0 hv1 w3 (by omega)
    have mi : minI (v * 128 + x % 128) 1099511627776 = min (v * 128 + x % 128) 1099511627776 := by
      unfold minI
      by_cases h : 1099511627776 < v * 128 + x % 128
      · simp [h]; omega
      · simp [h]; omega
    simp only [arcs]
    by_cases h1 : b = true ∧ x = 128
    · right
      obtain ⟨rfl, rfl⟩ := h1
      refine ⟨by simp, out, .d (.bool true), ?_⟩
      rw [iter_eq, hst]
      cases out with
      | nil => simp [htt, hlin, e0, ra, ownA]
      | cons y out => simp [htt, hlin, e0, ra, ownA]
    · rw [if_neg h1]
      have hmin0 : 0 ≤ min (v * 128 + x % 128) 1099511627776 := by omega
      have hmin1 : min (v * 128 + x % 128) 1099511627776 ≤ 1099511627776 := by omega
      generalize hv' : min (v * 128 + x % 128) 1099511627776 = v' at *
      by_cases h2 : x < 128
      · rw [if_pos h2]
        have ih' := fun st h => ih (i + 1) k 0 true (out ++ [v']) st hd2 (by omega) hk (by simp; omega) (by omega) (by omega) h
        cases hres : arcs us 0 true (out ++ [v']) with
        | none =>
          right
          refine ⟨rfl, ?_⟩
          have ih2 := fun st h => pick_none hres (ih' st h)
          rw [iter_eq, hst]
          cases out with
          | nil =>
            simp [ownA] at ih2
            cases b with
            | true =>
              have hx128 : ¬ x = 128 := fun e => h1 ⟨rfl, e⟩
              simp [htt, hlin, e0, e1, e2, ra, a1, w1, w2, w3, w4, o1, mi, hv', h2, hx128, ownA]
              exact ih2 _ (by simp)
            | false =>
              simp [htt, hlin, e0, e1, e2, ra, a1, w1, w2, w3, w4, o1, mi, hv', h2, ownA]
              exact ih2 _ (by simp)
          | cons y out =>
            simp at hm
            have r1 : (out.length + 1 + 1) * 8 ≤ 140737488355328 := by omega
            have r2 : out.length + 1 + 1 ≤ 140737488355328 := by omega
            simp [ownA] at ih2
            cases b with
            | true =>
              have hx128 : ¬ x = 128 := fun e => h1 ⟨rfl, e⟩
              simp [htt, hlin, e0, e1, e2, ra, a1, w1, w2, w3, w4, o1, mi, hv', h2, hx128, ownA, r1, r2]
              exact ih2 _ (by simp)
            | false =>
              simp [htt, hlin, e0, e1, e2, ra, a1, w1, w2, w3, w4, o1, mi, hv', h2, ownA, r1, r2]
              exact ih2 _ (by simp)
        | some r =>
          obtain ⟨o, b'⟩ := r
          left
          refine ⟨o, b', rfl, ?_⟩
          have ih2 := fun st h => pick_arc hres (ih' st h)
          rw [iter_eq, hst]
          cases out with
          | nil =>
            simp [ownA] at ih2
            cases b with
            | true =>
              have hx128 : ¬ x = 128 := fun e => h1 ⟨rfl, e⟩
              simp [htt, hlin, e0, e1, e2, ra, a1, w1, w2, w3, w4, o1, mi, hv', h2, hx128, ownA]
              exact ih2 _ (by simp)
            | false =>
              simp [htt, hlin, e0, e1, e2, ra, a1, w1, w2, w3, w4, o1, mi, hv', h2, ownA]
              exact ih2 _ (by simp)
          | cons y out =>
            simp at hm
            have r1 : (out.length + 1 + 1) * 8 ≤ 140737488355328 := by omega
            have r2 : out.length + 1 + 1 ≤ 140737488355328 := by omega
            simp [ownA] at ih2
            cases b with
            | true =>
              have hx128 : ¬ x = 128 := fun e => h1 ⟨rfl, e⟩
              simp [htt, hlin, e0, e1, e2, ra, a1, w1, w2, w3, w4, o1, mi, hv', h2, hx128, ownA, r1, r2]
              exact ih2 _ (by simp)
            | false =>
              simp [htt, hlin, e0, e1, e2, ra, a1, w1, w2, w3, w4, o1, mi, hv', h2, ownA, r1, r2]
              exact ih2 _ (by simp)
      · rw [if_neg h2]
        have ih' := fun st h => ih (i + 1) k v' false out st hd2 (by omega) hk (by omega) hmin0 hmin1 h
        cases hres : arcs us v' false out with
        | none =>
          right
          refine ⟨rfl, ?_⟩
          have ih2 := fun st h => pick_none hres (ih' st h)
          rw [iter_eq, hst]
          cases out with
          | nil =>
            simp [ownA] at ih2
            cases b with
            | true =>
              have hx128 : ¬ x = 128 := fun e => h1 ⟨rfl, e⟩
              simp [htt, hlin, e0, e1, e2, ra, a1, w1, w2, w3, w4, o1, mi, hv', h2, hx128, ownA]
              exact ih2 _ (by simp)
            | false =>
              simp [htt, hlin, e0, e1, e2, ra, a1, w1, w2, w3, w4, o1, mi, hv', h2, ownA]
              exact ih2 _ (by simp)
          | cons y out =>
            simp at hm
            have r1 : (out.length + 1 + 1) * 8 ≤ 140737488355328 := by omega
            have r2 : out.length + 1 + 1 ≤ 140737488355328 := by omega
            simp [ownA] at ih2
            cases b with
            | true =>
              have hx128 : ¬ x = 128 := fun e => h1 ⟨rfl, e⟩
              simp [htt, hlin, e0, e1, e2, ra, a1, w1, w2, w3, w4, o1, mi, hv', h2, hx128, ownA, r1, r2]
              exact ih2 _ (by simp)
            | false =>
              simp [htt, hlin, e0, e1, e2, ra, a1, w1, w2, w3, w4, o1, mi, hv', h2, ownA, r1, r2]
              exact ih2 _ (by simp)
        | some r =>
          obtain ⟨o, b'⟩ := r
          left
          refine ⟨o, b', rfl, ?_⟩
          have ih2 := fun st h => pick_arc hres (ih' st h)
          rw [iter_eq, hst]
          cases out with
          | nil =>
            simp [ownA] at ih2
            cases b with
            | true =>
              have hx128 : ¬ x = 128 := fun e => h1 ⟨rfl, e⟩
              simp [htt, hlin, e0, e1, e2, ra, a1, w1, w2, w3, w4, o1, mi, hv', h2, hx128, ownA]
              exact ih2 _ (by simp)
            | false =>
              simp [htt, hlin, e0, e1, e2, ra, a1, w1, w2, w3, w4, o1, mi, hv', h2, ownA]
              exact ih2 _ (by simp)
          | cons y out =>
            simp at hm
            have r1 : (out.length + 1 + 1) * 8 ≤ 140737488355328 := by omega
            have r2 : out.length + 1 + 1 ≤ 140737488355328 := by omega
            simp [ownA] at ih2
            cases b with
            | true =>
              have hx128 : ¬ x = 128 := fun e => h1 ⟨rfl, e⟩
              simp [htt, hlin, e0, e1, e2, ra, a1, w1, w2, w3, w4, o1, mi, hv', h2, hx128, ownA, r1, r2]
              exact ih2 _ (by simp)
            | false =>
              simp [htt, hlin, e0, e1, e2, ra, a1, w1, w2, w3, w4, o1, mi, hv', h2, ownA, r1, r2]
              exact ih2 _ (by simp)

theorem arcs_len : ∀ (us : List Int) (v : Int) (b : Bool) (out : List Int) (o : List Int) (b' : Bool), arcs us v b out = some (o, b') → o.length ≤ out.length + us.length
  | [], v, b, out, o, b', h => by simp [arcs] at h; rw [← h.1]; simp
  | x :: us, v, b, out, o, b', h => by
    simp only [arcs] at h
    split at h
    · cases h
    · split at h
      · have := arcs_len us _ _ _ _ _ h; simp at this ⊢; omega
      · have := arcs_len us _ _ _ _ _ h; simp at this ⊢; omega

theorem skol2 {α β γ : Type} [Inhabited β] [Inhabited γ] {Q : α → Prop} {R : α → β → γ → Prop} (h : ∀ a, Q a → ∃ b c, R a b c) : ∃ (f : α → β) (g : α → γ), ∀ a, Q a → R a (f a) (g a) := by
  have : ∀ a, ∃ b c, Q a → R a b c := fun a => by
    by_cases hq : Q a
    · obtain ⟨b, c, h⟩ := h a hq
      exact ⟨b, c, fun _ => h⟩
    · exact ⟨default, default, fun q => absurd q hq⟩
  exact ⟨fun a => Classical.choose (this a), fun a => Classical.choose (Classical.choose_spec (this a)), fun a => Classical.choose_spec (Classical.choose_spec (this a))⟩

theorem t44 (fuel n : Nat) (nl : Bool) (s : List Int) (hs : s.length ≤ 1000000) (hb : ∀ x ∈ s, 0 ≤ x ∧ x < 256) (hf : s.length < fuel) :
    callN env fuel (n+1) 44 [.d (.nums .u8 nl s)] = some (match arcs s 0 true [] with
    | none => ⟨[.d (.nums .u64 true []), .d (.bool false)], []⟩
    | some (o, b) => ⟨[.d (.nums .u64 o.isEmpty o), .d (.bool (b && !o.isEmpty))], []⟩) := by
  rw [callN_run (fn := Try.f44) rfl rfl rfl (by simp [Try.ntmps44])]
  generalize hC : env.ctx 44 (callN env fuel n) (callP env fuel n) = C
  have htt : C.tt = env.tt := by rw [← hC]; rfl
  have hlin : C.lin = [4, 30] := by rw [← hC]; rfl
  have hl1 : C.live 5 = [4, 5, 6, 9, 10, 11] := by rw [← hC]; rfl
  have hl2 : C.live 100005 = [2, 3, 4, 6] := by rw [← hC]; rfl
  have hL := fun st h => @loop44 C htt hlin fuel _ rfl nl s hs hb s 0 fuel 0 true [] st rfl (by omega) hf (by simpa using hs) (by omega) (by omega) h
  simp only [ownA, List.isEmpty_nil] at hL
  cases hr : arcs s 0 true [] with
  | none =>
    have hL2 := fun st h => pick_none hr (hL st h)
    obtain ⟨o, u, hL3⟩ := skol2 hL2
    simp [htt, hlin, ev_loop, hl1, hl2, hL3]
    generalize o _ = oo
    cases oo <;> simp
  | some r =>
    obtain ⟨o, b⟩ := r
    have hL2 := fun st h => pick_arc hr (hL st h)
    cases o with
    | nil =>
      cases b with
      | true => simp [htt, hlin, ev_loop, hl1, hl2, hL2]
      | false => simp [htt, hlin, ev_loop, hl1, hl2, hL2]
    | cons y o =>
      have e0 : (0 : Int) < (o.length : Int) + 1 := by omega
      cases b with
      | true => simp [htt, hlin, ev_loop, hl1, hl2, hL2, e0]
      | false => simp [htt, hlin, ev_loop, hl1, hl2, hL2, e0]
end Go.Proofs.Ytmehkdomnhgmeaa
