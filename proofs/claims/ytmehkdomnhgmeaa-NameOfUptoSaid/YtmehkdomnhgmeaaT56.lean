/- What the reference's fine and Depth hand back: for all elements of some width. -/
import Derived.Test.YtmehkdomnhgmeaaT40
namespace Go.Proofs.Ytmehkdomnhgmeaa
open Go Go.VM
set_option linter.unusedSimpArgs false
set_option linter.unusedVariables false
set_option maxRecDepth 100000
set_option maxHeartbeats 4000000

mutual
def Tlv.fine : Tlv → Bool
  | .mk c t m _ b _ ks => decide (0 ≤ c ∧ c ≤ 3 ∧ 0 ≤ t ∧ t ≤ 30 ∧ (m = true → b = []) ∧ (m = false → ks = [])) && Tlv.fineL ks
def Tlv.fineL : List Tlv → Bool
  | [] => true
  | x :: l => x.fine && Tlv.fineL l
end

theorem loop56 {C : Ctx} (htt : C.tt = env.tt) (hlin : C.lin = []) {F m : Nat} (hcall : C.call = callN env F m) {c : Code} (hc : loopAt 6 Try.f56 = some c) (p0 p1 p2 p3 : D) (kx : Bool) (a : List Tlv) (ha : a.length ≤ 140737488355328)
    (hrec : ∀ x ∈ a, callN env F m 56 [.d (.agg x.cells)] = some ⟨[.d (.bool x.fine)], []⟩) :
    ∀ (us : List Tlv) (i k : Nat) (st : St), a.drop i = us → i ≤ a.length → us.length < k →
      st.trim 1 [1, 3] = ⟨[(1, .ptr 0 0), (3, .d (.int .i64 i))], [some (.cells false [.d p0, .d p1, .d p2, .d p3, .d (.sl 5 kx (Tlv.cellsL a))])], []⟩ →
      iter (ev C F c) 1 [1, 3] [2] k st = if Tlv.fineL us then some (.exit 0, ⟨[], [some (.cells false [.d p0, .d p1, .d p2, .d p3, .d (.sl 5 kx (Tlv.cellsL a))])], []⟩)
        else some (.ret, ⟨[(2, .d (.bool false))], [some (.cells false [.d p0, .d p1, .d p2, .d p3, .d (.sl 5 kx (Tlv.cellsL a))])], []⟩) := by
  simp [loopAt, findLoop, Try.f56] at hc
  subst hc
  intro us
  induction us with
  | nil =>
    intro i k st hd hi hk' hst
    obtain ⟨k, rfl⟩ : ∃ j, k = j + 1 := ⟨k - 1, by simp at hk'; omega⟩
    have h0 := drop_nil hd
    have e0 : ¬ ((i : Int) < (a.length : Int)) := by omega
    rw [iter_eq, hst]
    simp [htt, hlin, e0, cellsL_len, Tlv.fineL]
  | cons x us ih =>
    intro i k st hd hi hk' hst
    obtain ⟨k, rfl⟩ : ∃ j, k = j + 1 := ⟨k - 1, by simp at hk'; omega⟩
    simp at hk'
    obtain ⟨hd2, hlt⟩ := drop_succ hd
    have ra := cellsL_at hd
    have hx : x ∈ a := List.mem_of_getElem? (at_of_drop hd)
    have k1 := hrec x hx
    have e0 : (i : Int) < (a.length : Int) := by omega
    have e1 : (i : Int) + 1 ≤ 9223372036854775807 := by omega
    have e2 : (-9223372036854775808 : Int) ≤ (i : Int) + 1 := by omega
    have ih' := fun st h => ih (i + 1) k st hd2 (by omega) hk' h
    have l5 := cells_five x
    have tk : x.cells.take 5 = x.cells := List.take_of_length_le (by omega)
    rw [iter_eq, hst]
    cases hs : x.fine with
    | true =>
      rw [hs] at k1
      simp [htt, hlin, hcall, e0, e1, e2, ra, cellsL_len, Tlv.fineL, k1, hs, ih', l5, tk]
    | false =>
      rw [hs] at k1
      simp [htt, hlin, hcall, e0, e1, e2, ra, cellsL_len, Tlv.fineL, k1, hs, l5, tk]

theorem t56 (F : Nat) (hF : F ≤ 140737488355328) (B : Nat) (hB : B < F) : ∀ (d n : Nat) (x : Tlv), x.depth ≤ d → x.width B →
    callN env F (n + d) 56 [.d (.agg x.cells)] = some ⟨[.d (.bool x.fine)], []⟩ := by
  intro d
  induction d with
  | zero => intro n x hd; cases x; simp [Tlv.depth] at hd
  | succ d ih =>
    intro n x hd hw
    obtain ⟨c, t, m, bn, b, kn, ks⟩ := x
    simp only [Tlv.depth] at hd
    simp only [Tlv.width] at hw
    rw [← Nat.add_assoc]
    rw [callN_run (fn := Try.f56) rfl rfl rfl (by simp [Try.ntmps56])]
    generalize hC : env.ctx 56 (callN env F (n+d)) (callP env F (n+d)) = C
    have htt : C.tt = env.tt := by rw [← hC]; rfl
    have hlin : C.lin = [] := by rw [← hC]; rfl
    have hcall : C.call = callN env F (n+d) := by rw [← hC]; rfl
    have hl1 : C.live 6 = [1, 3] := by rw [← hC]; rfl
    have hl2 : C.live 100006 = [2] := by rw [← hC]; rfl
    have hrec : ∀ x ∈ ks, callN env F (n+d) 56 [.d (.agg x.cells)] = some ⟨[.d (.bool x.fine)], []⟩ := fun x hx =>
      ih n x (by have := depthL_mem hx; omega) (widthL_mem hw.2.2 hx)
    have hL := fun st h => @loop56 C htt hlin F (n+d) hcall _ rfl (.int .i64 c) (.int .i64 t) (.bool m) (.nums .u8 bn b) kn ks (by omega) hrec ks 0 F st rfl (by omega) (by omega) h
    have nb : (b = []) ↔ ¬ ((0 : Int) < (b.length : Int)) := by
      constructor
      · rintro rfl; simp
      · intro h; apply List.length_eq_zero_iff.1; omega
    have nk : (ks = []) ↔ ¬ ((0 : Int) < (ks.length : Int)) := by
      constructor
      · rintro rfl; simp
      · intro h; apply List.length_eq_zero_iff.1; omega
    simp only [Tlv.cells, Tlv.fine]
    by_cases h1 : c < 0
    · have : ¬ (0 ≤ c) := by omega
      simp [htt, hlin, h1, this]
    · have h1' : 0 ≤ c := by omega
      by_cases h2 : 3 < c
      · have : ¬ (c ≤ 3) := by omega
        simp [htt, hlin, h1, h2, this]
      · have h2' : c ≤ 3 := by omega
        by_cases h3 : t < 0
        · have : ¬ (0 ≤ t) := by omega
          simp [htt, hlin, h1, h2, h3, this]
        · have h3' : 0 ≤ t := by omega
          by_cases h4 : 30 < t
          · have : ¬ (t ≤ 30) := by omega
            simp [htt, hlin, h1, h2, h3, h4, this]
          · have h4' : t ≤ 30 := by omega
            cases m with
            | true =>
              by_cases hb : b = []
              · subst hb
                cases hs : Tlv.fineL ks with
                | true => simp [htt, hlin, ev_loop, hl1, hl2, hL, h1, h2, h3, h4, h1', h2', h3', h4', hs]
                | false => simp [htt, hlin, ev_loop, hl1, hl2, hL, h1, h2, h3, h4, h1', h2', h3', h4', hs]
              · have h5 : 0 < b.length := List.length_pos_iff.2 hb
                simp [htt, hlin, h1, h2, h3, h4, h5, cellsL_len, hb]
            | false =>
              by_cases hb : ks = []
              · subst hb
                simp only [Tlv.fineL, Tlv.cellsL] at hL
                simp [htt, hlin, ev_loop, hl1, hl2, hL, h1, h2, h3, h4, h1', h2', h3', h4', Tlv.cellsL, Tlv.fineL]
              · have h5 : 0 < ks.length := List.length_pos_iff.2 hb
                simp [htt, hlin, h1, h2, h3, h4, h5, cellsL_len, hb]

theorem loop57 {C : Ctx} (htt : C.tt = env.tt) (hlin : C.lin = []) {F m : Nat} (hcall : C.call = callN env F m) {c : Code} (hc : loopAt 3 Try.f57 = some c) (p0 p1 p2 p3 : D) (kx : Bool) (a : List Tlv) (ha : a.length ≤ 140737488355328) (hdep : Tlv.depthL a ≤ 1000)
    (hrec : ∀ x ∈ a, callN env F m 57 [.d (.agg x.cells)] = some ⟨[.d (.int .i64 x.depth)], []⟩) :
    ∀ (us : List Tlv) (i k : Nat) (most : Nat) (st : St), a.drop i = us → i ≤ a.length → us.length < k → most ≤ 1000 →
      st.trim 1 [1, 3, 4] = ⟨[(1, .ptr 0 0), (3, .d (.int .i64 most)), (4, .d (.int .i64 i))], [some (.cells false [.d p0, .d p1, .d p2, .d p3, .d (.sl 5 kx (Tlv.cellsL a))])], []⟩ →
      iter (ev C F c) 1 [1, 3, 4] [2, 3] k st = some (.exit 0, ⟨[(3, .d (.int .i64 (max most (Tlv.depthL us) : Nat)))], [some (.cells false [.d p0, .d p1, .d p2, .d p3, .d (.sl 5 kx (Tlv.cellsL a))])], []⟩) := by
  simp [loopAt, findLoop, Try.f57] at hc
  subst hc
  intro us
  induction us with
  | nil =>
    intro i k most st hd hi hk' hm hst
    obtain ⟨k, rfl⟩ : ∃ j, k = j + 1 := ⟨k - 1, by simp at hk'; omega⟩
    have h0 := drop_nil hd
    have e0 : ¬ ((i : Int) < (a.length : Int)) := by omega
    rw [iter_eq, hst]
    simp [htt, hlin, e0, cellsL_len, Tlv.depthL]
  | cons x us ih =>
    intro i k most st hd hi hk' hm hst
    obtain ⟨k, rfl⟩ : ∃ j, k = j + 1 := ⟨k - 1, by simp at hk'; omega⟩
    simp at hk'
    obtain ⟨hd2, hlt⟩ := drop_succ hd
    have ra := cellsL_at hd
    have hx : x ∈ a := List.mem_of_getElem? (at_of_drop hd)
    have hdx := depthL_mem hx
    have k1 := hrec x hx
    have e0 : (i : Int) < (a.length : Int) := by omega
    have e1 : (i : Int) + 1 ≤ 9223372036854775807 := by omega
    have e2 : (-9223372036854775808 : Int) ≤ (i : Int) + 1 := by omega
    have l5 := cells_five x
    have tk : x.cells.take 5 = x.cells := List.take_of_length_le (by omega)
    simp only [Tlv.depthL]
    rw [iter_eq, hst]
    by_cases hs : most < x.depth
    · have e3 : (most : Int) < (x.depth : Int) := by omega
      have ih' := fun st h => ih (i + 1) k x.depth st hd2 (by omega) hk' (by omega) h
      rw [show max x.depth (Tlv.depthL us) = max most (max x.depth (Tlv.depthL us)) by omega] at ih'
      simp [htt, hlin, hcall, e0, e1, e2, e3, ra, cellsL_len, k1, ih', l5, tk]
    · have e3 : ¬ ((most : Int) < (x.depth : Int)) := by omega
      have ih' := fun st h => ih (i + 1) k most st hd2 (by omega) hk' hm h
      rw [show max most (Tlv.depthL us) = max most (max x.depth (Tlv.depthL us)) by omega] at ih'
      simp [htt, hlin, hcall, e0, e1, e2, e3, ra, cellsL_len, k1, ih', l5, tk]

theorem t57 (F : Nat) (hF : F ≤ 140737488355328) (B : Nat) (hB : B < F) : ∀ (d n : Nat) (x : Tlv), x.depth ≤ d → x.depth ≤ 1000 → x.width B →
    callN env F (n + d) 57 [.d (.agg x.cells)] = some ⟨[.d (.int .i64 x.depth)], []⟩ := by
  intro d
  induction d with
  | zero => intro n x hd; cases x; simp [Tlv.depth] at hd
  | succ d ih =>
    intro n x hd h1000 hw
    obtain ⟨c, t, m, bn, b, kn, ks⟩ := x
    simp only [Tlv.depth] at hd h1000
    simp only [Tlv.width] at hw
    rw [← Nat.add_assoc]
    rw [callN_run (fn := Try.f57) rfl rfl rfl (by simp [Try.ntmps57])]
    generalize hC : env.ctx 57 (callN env F (n+d)) (callP env F (n+d)) = C
    have htt : C.tt = env.tt := by rw [← hC]; rfl
    have hlin : C.lin = [] := by rw [← hC]; rfl
    have hcall : C.call = callN env F (n+d) := by rw [← hC]; rfl
    have hl1 : C.live 3 = [1, 3, 4] := by rw [← hC]; rfl
    have hl2 : C.live 100003 = [2, 3] := by rw [← hC]; rfl
    have hrec : ∀ x ∈ ks, callN env F (n+d) 57 [.d (.agg x.cells)] = some ⟨[.d (.int .i64 x.depth)], []⟩ := fun x hx =>
      ih n x (by have := depthL_mem hx; omega) (by have := depthL_mem hx; omega) (widthL_mem hw.2.2 hx)
    have hL := fun st h => @loop57 C htt hlin F (n+d) hcall _ rfl (.int .i64 c) (.int .i64 t) (.bool m) (.nums .u8 bn b) kn ks (by omega) (by omega) hrec ks 0 F 0 st rfl (by omega) (by omega) (by omega) h
    simp only [Nat.zero_max] at hL
    have e1 : (Tlv.depthL ks : Int) + 1 ≤ 9223372036854775807 := by omega
    have e2 : (-9223372036854775808 : Int) ≤ (Tlv.depthL ks : Int) + 1 := by omega
    simp only [Tlv.cells, Tlv.depth]
    simp [htt, hlin, ev_loop, hl1, hl2, hL, e1, e2]
end Go.Proofs.Ytmehkdomnhgmeaa
