/- What name.Element hands back: for all names of some size. -/
import Derived.Test.YtmehkdomnhgmeaaT36
namespace Go.Proofs.Ytmehkdomnhgmeaa
open Go Go.VM
set_option linter.unusedSimpArgs false
set_option linter.unusedVariables false
set_option maxRecDepth 100000
set_option maxHeartbeats 4000000

theorem loop35 {C : Ctx} (htt : C.tt = env.tt) (hlin : C.lin = [51]) {fuel m : Nat} (hfu : 64 < fuel) (hcall : C.call = callN env fuel (m+4)) {c : Code} (hc : loopAt 5 Try.f35 = some c) (na : Bool) (a : List (Int × List Int)) (ha : a.length ≤ 1000)
    (hl : ∀ p ∈ a, p.2.length ≤ 9223372036854775807) :
    ∀ (us : List (Int × List Int)) (ks : List (List D)) (i k : Nat) (st : St), a.drop i = us → i ≤ a.length → ks.length + us.length ≤ 1000 → us.length < k →
      st.trim 2 [2, 4, 16, 17, 18] = ⟨[(2, .ptr 0 0), (4, .ptr 1 0), (16, .d (.sl 2 na (rows a))), (17, .d (.int .i64 a.length)), (18, .d (.int .i64 i))], [some (.cells false zeroV), some (.cells false (nodeV ks.isEmpty ks))], ownK ks⟩ →
      (us.all partOk = true ∧ iter (ev C fuel c) 2 [2, 4, 16, 17, 18] [2, 3, 4] k st = some (.exit 0, ⟨[(2, .ptr 0 0), (4, .ptr 1 0)], [some (.cells false zeroV), some (.cells false (nodeV (ks ++ us.map partD).isEmpty (ks ++ us.map partD)))], ownK (ks ++ us.map partD)⟩)) ∨
      (us.all partOk = false ∧ ∃ kt ow x1 x2, iter (ev C fuel c) 2 [2, 4, 16, 17, 18] [2, 3, 4] k st = some (.ret, ⟨[(2, .ptr 0 0), (3, .d (err 1)), (4, .ptr 1 0)], [some (.cells false zeroV), some (.cells false kt), some (.cells false [.d (.int .i64 x1), .d (.str x2)])], ow⟩)) := by
  simp [loopAt, findLoop, Try.f35] at hc
  subst hc
  intro us
  induction us with
  | nil =>
    intro ks i k st hd hi hlen hk' hst
    obtain ⟨k, rfl⟩ : ∃ j, k = j + 1 := ⟨k - 1, by simp at hk'; omega⟩
    have h0 := drop_nil hd
    have e0 : ¬ ((i : Int) < (a.length : Int)) := by omega
    left
    refine ⟨rfl, ?_⟩
    rw [iter_eq, hst]
    cases ks with
    | nil => simp [htt, hlin, e0, rows_len, ownK, nodeV, zeroV]
    | cons x ks => simp [htt, hlin, e0, rows_len, ownK, nodeV, zeroV]
  | cons x us ih =>
    intro ks i k st hd hi hlen hk' hst
    obtain ⟨k, rfl⟩ : ∃ j, k = j + 1 := ⟨k - 1, by simp at hk'; omega⟩
    simp at hk' hlen
    obtain ⟨hd2, hlt⟩ := drop_succ hd
    have ra := rows_at hd
    have hx : x ∈ a := List.mem_of_getElem? (at_of_drop hd)
    have hx2 := hl x hx
    have e0 : (i : Int) < (a.length : Int) := by omega
    have e1 : (i : Int) + 1 ≤ 9223372036854775807 := by omega
    have e2 : (-9223372036854775808 : Int) ≤ (i : Int) + 1 := by omega
    obtain ⟨x1, x2⟩ := x
    have k1 := t28 fuel m false x2 hx2 hfu
    have k2 := t51 fuel (m+3) x1
    rw [iter_eq, hst]
    by_cases ht : textBad x2 = 0
    · rw [if_pos ht] at k1
      cases hkd : isKind x1 with
      | true =>
        rw [hkd] at k2
        have hp : partOk (x1, x2) = true := by simp [partOk, hkd, ht]
        obtain ⟨b0, b1⟩ := kind_byte hkd
        simp only [List.all_cons, hp, Bool.true_and]
        have k3 := fun kids => t50 fuel (m+3) false kids
        cases hall : us.all partOk with
        | true =>
          left
          refine ⟨rfl, ?_⟩
          have ih2 := fun st h => ((ih (ks ++ [partD (x1, x2)]) (i + 1) k st hd2 (by omega) (by simp; omega) hk' h).resolve_right (fun q => by rw [hall] at q; exact absurd q.1 (by simp))).2
          cases ks with
          | nil =>
            simp [ownK, nodeV, zeroV, partD, nodeD, leafD] at ih2
            simp [htt, hlin, hcall, e0, e1, e2, ra, rows_len, k1, k2, k3, ht, b0, b1, ownK, nodeV, zeroV, partD, nodeD, leafD, ih2]
          | cons y ks =>
            simp at hlen
            have r1 : (ks.length + 1 + 1) * 72 ≤ 140737488355328 := by omega
            have r2 : ks.length + 1 + 1 ≤ 140737488355328 := by omega
            simp [ownK, nodeV, zeroV, partD, nodeD, leafD] at ih2
            simp [htt, hlin, hcall, e0, e1, e2, ra, rows_len, k1, k2, k3, ht, b0, b1, ownK, nodeV, zeroV, partD, nodeD, leafD, r1, r2, ih2]
        | false =>
          right
          refine ⟨rfl, ?_⟩
          have ih2 := fun st h => ((ih (ks ++ [partD (x1, x2)]) (i + 1) k st hd2 (by omega) (by simp; omega) hk' h).resolve_left (fun q => by rw [hall] at q; exact absurd q.1 (by simp))).2
          cases ks with
          | nil =>
            simp [ownK, nodeV, zeroV, partD, nodeD, leafD] at ih2
            simp [htt, hlin, hcall, e0, e1, e2, ra, rows_len, k1, k2, k3, ht, b0, b1, ownK, nodeV, zeroV, partD, nodeD, leafD]
            exact ih2 _ (by simp)
          | cons y ks =>
            simp at hlen
            have r1 : (ks.length + 1 + 1) * 72 ≤ 140737488355328 := by omega
            have r2 : ks.length + 1 + 1 ≤ 140737488355328 := by omega
            simp [ownK, nodeV, zeroV, partD, nodeD, leafD] at ih2
            simp [htt, hlin, hcall, e0, e1, e2, ra, rows_len, k1, k2, k3, ht, b0, b1, ownK, nodeV, zeroV, partD, nodeD, leafD, r1, r2]
            exact ih2 _ (by simp)
      | false =>
        rw [hkd] at k2
        have hp : partOk (x1, x2) = false := by simp [partOk, hkd, ht]
        right
        refine ⟨by simp [hp], nodeV ks.isEmpty ks, ownK ks, x1, x2, ?_⟩
        unfold err
        cases ks with
        | nil => simp [htt, hlin, hcall, e0, e1, e2, ra, rows_len, k1, k2, ht, ownK, nodeV, zeroV]
        | cons y ks => simp [htt, hlin, hcall, e0, e1, e2, ra, rows_len, k1, k2, ht, ownK, nodeV, zeroV]
    · rw [if_neg ht] at k1
      have hp : partOk (x1, x2) = false := by simp [partOk, ht]
      right
      refine ⟨by simp [hp], nodeV ks.isEmpty ks, ownK ks, x1, x2, ?_⟩
      unfold err at k1 ⊢
      cases ks with
      | nil => simp [htt, hlin, hcall, e0, e1, e2, ra, rows_len, k1, k2, ht, ownK, nodeV, zeroV]
      | cons y ks => simp [htt, hlin, hcall, e0, e1, e2, ra, rows_len, k1, k2, ht, ownK, nodeV, zeroV]

theorem skol {α β γ δ ε : Type} [Inhabited β] [Inhabited γ] [Inhabited δ] [Inhabited ε] {Q : α → Prop} {R : α → β → γ → δ → ε → Prop} (h : ∀ a, Q a → ∃ b c d e, R a b c d e) :
    ∃ (f : α → β) (g : α → γ) (i : α → δ) (k : α → ε), ∀ a, Q a → R a (f a) (g a) (i a) (k a) := by
  have : ∀ a, ∃ b c d e, Q a → R a b c d e := fun a => by
    by_cases hq : Q a
    · obtain ⟨b, c, d, e, h⟩ := h a hq
      exact ⟨b, c, d, e, fun _ => h⟩
    · exact ⟨default, default, default, default, fun q => absurd q hq⟩
  exact ⟨fun a => Classical.choose (this a), fun a => Classical.choose (Classical.choose_spec (this a)), fun a => Classical.choose (Classical.choose_spec (Classical.choose_spec (this a))),
    fun a => Classical.choose (Classical.choose_spec (Classical.choose_spec (Classical.choose_spec (this a)))), fun a => Classical.choose_spec (Classical.choose_spec (Classical.choose_spec (Classical.choose_spec (this a))))⟩

theorem t35 (fuel n : Nat) (na : Bool) (a : List (Int × List Int)) (ha : a.length ≤ 1000) (hl : ∀ p ∈ a, p.2.length ≤ 9223372036854775807) (hf : 1000 < fuel) :
    callN env fuel (n+5) 35 [.d (.sl 2 na (rows a))] = some (if may a then ⟨[.d (.agg (nameD a)), .d .nilifc], []⟩ else ⟨[.d (.agg [.int .i64 0, .int .i64 0, .bool false, .nums .u8 true [], .sl 5 true []]), .d (err 1)], []⟩) := by
  rw [callN_run (fn := Try.f35) rfl rfl rfl (by simp [Try.ntmps35])]
  generalize hC : env.ctx 35 (callN env fuel (n+4)) (callP env fuel (n+4)) = C
  have htt : C.tt = env.tt := by rw [← hC]; rfl
  have hlin : C.lin = [51] := by rw [← hC]; rfl
  have hcall : C.call = callN env fuel (n+4) := by rw [← hC]; rfl
  have hl1 : C.live 5 = [2, 4, 16, 17, 18] := by rw [← hC]; rfl
  have hl2 : C.live 100005 = [2, 3, 4] := by rw [← hC]; rfl
  have k3 := fun kids => t50 fuel (n+3) true kids
  have hL := fun st h => @loop35 C htt hlin fuel n (by omega) hcall _ rfl na a ha hl a [] 0 fuel st rfl (by omega) (by simpa using ha) (by omega) h
  simp only [ownK, List.isEmpty_nil, List.nil_append, nodeV, zeroV] at hL
  unfold may
  by_cases h8 : a.length ≤ 8
  · have e0 : ¬ ((8 : Int) < a.length) := by omega
    cases hall : a.all partOk with
    | true =>
      have hL2 := fun st h => ((hL st h).resolve_right (fun q => by rw [hall] at q; exact absurd q.1 (by simp))).2
      unfold nodeD at k3
      unfold nameD nodeD
      cases a with
      | nil => simp [htt, hlin, hcall, ev_loop, hl1, hl2, hL2, k3, rows_len, ownK]
      | cons x a =>
        simp at h8
        have e1 : ¬ ((8 : Int) < a.length + 1) := by omega
        simp [hall] at hall ⊢
        simp [htt, hlin, hcall, ev_loop, hl1, hl2, hL2, k3, rows_len, ownK, e1, h8, hall]
    | false =>
      have hL2 := fun st h => ((hL st h).resolve_left (fun q => by rw [hall] at q; exact absurd q.1 (by simp))).2
      obtain ⟨kt, ow, x1, x2, hL3⟩ := skol hL2
      have h3 : ¬ (may a = true) := by simp [may, hall]
      unfold nodeD at k3
      unfold err at hL3 ⊢
      simp [htt, hlin, hcall, ev_loop, hl1, hl2, hL3, k3, rows_len, ownK, e0]
  · have e0 : (8 : Int) < a.length := by omega
    unfold err
    simp [htt, hlin, hcall, rows_len, e0, h8]
end Go.Proofs.Ytmehkdomnhgmeaa
