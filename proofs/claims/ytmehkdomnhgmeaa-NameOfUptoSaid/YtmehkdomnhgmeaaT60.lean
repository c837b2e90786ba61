/- What name.Of hands back: for every element of some width. -/
import Derived.Test.YtmehkdomnhgmeaaT55
import Derived.Test.YtmehkdomnhgmeaaT39
namespace Go.Proofs.Ytmehkdomnhgmeaa
open Go Go.VM
set_option linter.unusedSimpArgs false
set_option linter.unusedVariables false
set_option maxRecDepth 100000
set_option maxHeartbeats 4000000

/-- The parts up to the first that is none. -/
def preR (f : Tlv → (Int × List Int) × Bool) : List Tlv → List (Int × List Int)
  | [] => []
  | x :: l => if (f x).2 then (f x).1 :: preR f l else []
def okR (f : Tlv → (Int × List Int) × Bool) (l : List Tlv) : Bool := l.all fun x => (f x).2
theorem preR_len (f : Tlv → (Int × List Int) × Bool) : ∀ l : List Tlv, (preR f l).length ≤ l.length
  | [] => by simp [preR]
  | x :: l => by
    have := preR_len f l
    unfold preR; split <;> simp <;> omega
theorem bytesOk_mem {x : Tlv} : ∀ {l : List Tlv}, Tlv.bytesOkL l → x ∈ l → x.bytesOk
  | y :: l, hf, h => by
    simp only [Tlv.bytesOkL] at hf
    rcases List.mem_cons.1 h with rfl | h
    · exact hf.1
    · exact bytesOk_mem hf.2 h

theorem skol3 {α β γ δ : Type} [Inhabited β] [Inhabited γ] [Inhabited δ] {Q : α → Prop} {R : α → β → γ → δ → Prop} (h : ∀ a, Q a → ∃ b c d, R a b c d) :
    ∃ (f : α → β) (g : α → γ) (i : α → δ), ∀ a, Q a → R a (f a) (g a) (i a) := by
  have : ∀ a, ∃ b c d, Q a → R a b c d := fun a => by
    by_cases hq : Q a
    · obtain ⟨b, c, d, h⟩ := h a hq
      exact ⟨b, c, d, fun _ => h⟩
    · exact ⟨default, default, default, fun q => absurd q hq⟩
  exact ⟨fun a => Classical.choose (this a), fun a => Classical.choose (Classical.choose_spec (this a)), fun a => Classical.choose (Classical.choose_spec (Classical.choose_spec (this a))),
    fun a => Classical.choose_spec (Classical.choose_spec (Classical.choose_spec (this a)))⟩

theorem loop60 {C : Ctx} (htt : C.tt = env.tt) (hlin : C.lin = [4, 31]) {F m B : Nat} (hB : B ≤ 1000000) (hBF : B < F) (hF : 200 ≤ F) (hcall : C.call = callN env F (m+21)) {c : Code} (hc : loopAt 5 Try.f39 = some c) (p0 p1 p2 p3 : D) (kn : Bool) (a : List Tlv) (ha : a.length ≤ 1000000)
    (hw : ∀ x ∈ a, x.width B) (hby : ∀ x ∈ a, x.bytesOk) :
    ∀ (us : List Tlv) (rs : List (Int × List Int)) (i k : Nat) (st : St), a.drop i = us → i ≤ a.length → rs.length + us.length ≤ 1000000 → us.length < k →
      st.trim 1 [4, 17, 18, 19] = ⟨[(4, .d (.sl 2 rs.isEmpty (rows rs))), (17, .d (.sl 5 kn (Tlv.cellsL a))), (18, .d (.int .i64 a.length)), (19, .d (.int .i64 i))], [some (.cells false [.d p0, .d p1, .d p2, .d p3, .d (.sl 5 kn (Tlv.cellsL a))])], ownR rs⟩ →
      (okR partRes us = true ∧ iter (ev C F c) 1 [4, 17, 18, 19] [2, 3, 4] k st = some (.exit 0, ⟨[(4, .d (.sl 2 (rs ++ preR partRes us).isEmpty (rows (rs ++ preR partRes us))))], [some (.cells false [.d p0, .d p1, .d p2, .d p3, .d (.sl 5 kn (Tlv.cellsL a))])], ownR (rs ++ preR partRes us)⟩)) ∨
      (okR partRes us = false ∧ ∃ (v : V) (bs : List (Option Blk)) (ow : List Pl), iter (ev C F c) 1 [4, 17, 18, 19] [2, 3, 4] k st = some (.ret, ⟨[(2, .d (.sl 2 true [])), (3, .d (err 7)), (4, v)], bs, ow⟩) ∧ hasPl (.t 2) ow = false) := by
  simp [loopAt, findLoop, Try.f39] at hc
  subst hc
  intro us
  induction us with
  | nil =>
    intro rs i k st hd hi hlen hk' hst
    obtain ⟨k, rfl⟩ : ∃ j, k = j + 1 := ⟨k - 1, by simp at hk'; omega⟩
    have h0 := drop_nil hd
    have e0 : ¬ ((i : Int) < (a.length : Int)) := by omega
    left
    refine ⟨rfl, ?_⟩
    rw [iter_eq, hst]
    cases rs with
    | nil => simp [htt, hlin, e0, ownR, preR]
    | cons x rs => simp [htt, hlin, e0, ownR, preR]
  | cons x us ih =>
    intro rs i k st hd hi hlen hk' hst
    obtain ⟨k, rfl⟩ : ∃ j, k = j + 1 := ⟨k - 1, by simp at hk'; omega⟩
    simp at hk' hlen
    obtain ⟨hd2, hlt⟩ := drop_succ hd
    have ra := cellsL_at hd
    have hx : x ∈ a := List.mem_of_getElem? (at_of_drop hd)
    have k1 := t55g F m B hB hBF hF x (hw x hx) (hby x hx)
    have e0 : (i : Int) < (a.length : Int) := by omega
    have e1 : (i : Int) + 1 ≤ 9223372036854775807 := by omega
    have e2 : (-9223372036854775808 : Int) ≤ (i : Int) + 1 := by omega
    rw [iter_eq, hst]
    cases hpr : partRes x with
    | mk q ok =>
    obtain ⟨x1, x2⟩ := q
    rw [hpr] at k1
    obtain ⟨cc, ct, cm, cbn, cb, ckn, cks⟩ := x
    simp only [Tlv.cells] at ra k1
    cases ok with
    | false =>
      right
      refine ⟨by simp [okR, hpr], ?_⟩
      unfold err
      cases rs with
      | nil => simp [htt, hlin, hcall, e0, e1, e2, ra, k1, ownR, rows]; exact ⟨_, _, _, ⟨rfl, rfl, rfl⟩, rfl⟩
      | cons y rs => simp [htt, hlin, hcall, e0, e1, e2, ra, k1, ownR, rows]; exact ⟨_, _, _, ⟨rfl, rfl, rfl⟩, rfl⟩
    | true =>
      simp only [okR, List.all_cons, hpr, Bool.true_and, preR, if_true]
      have ih' := fun st h => ih (rs ++ [(x1, x2)]) (i + 1) k st hd2 (by omega) (by simp; omega) hk' h
      cases hok : okR partRes us with
      | true =>
        have hok' := hok
        unfold okR at hok'
        left
        refine ⟨hok', ?_⟩
        have ih2 := fun st h => ((ih' st h).resolve_right (fun q => by rw [hok] at q; exact absurd q.1 (by simp))).2
        cases rs with
        | nil =>
          simp [ownR, rows] at ih2
          simp [htt, hlin, hcall, e0, e1, e2, ra, k1, ownR, rows, ih2]
        | cons y rs =>
          simp at hlen
          have r1 : (rs.length + 1 + 1) * 24 ≤ 140737488355328 := by omega
          have r2 : rs.length + 1 + 1 ≤ 140737488355328 := by omega
          simp [ownR, rows] at ih2
          simp [htt, hlin, hcall, e0, e1, e2, ra, k1, ownR, rows, r1, r2, ih2]
      | false =>
        have hok' := hok
        unfold okR at hok'
        right
        refine ⟨hok', ?_⟩
        have ih2 := fun st h => ((ih' st h).resolve_left (fun q => by rw [hok] at q; exact absurd q.1 (by simp))).2
        cases rs with
        | nil =>
          simp [ownR, rows] at ih2
          simp [htt, hlin, hcall, e0, e1, e2, ra, k1, ownR, rows]
          exact ih2 _ (by simp)
        | cons y rs =>
          simp at hlen
          have r1 : (rs.length + 1 + 1) * 24 ≤ 140737488355328 := by omega
          have r2 : rs.length + 1 + 1 ≤ 140737488355328 := by omega
          simp [ownR, rows] at ih2
          simp [htt, hlin, hcall, e0, e1, e2, ra, k1, ownR, rows, r1, r2]
          exact ih2 _ (by simp)

/-- What Of and read hand back. -/
def ofRes (f : Tlv → (Int × List Int) × Bool) : Tlv → Int × List (Int × List Int)
  | .mk c t m _ _ _ ks => if ¬ (c = 0 ∧ t = 16 ∧ m = true) then (7, []) else if okR f ks = false then (7, []) else if 8 < (preR f ks).length then (2, []) else (0, preR f ks)

theorem t60 (F n B : Nat) (hB : B ≤ 1000000) (hBF : B < F) (hF : 200 ≤ F) (x : Tlv) (hw : x.width B) (hby : x.bytesOk) :
    callN env F (n+22) 39 [.d (.agg x.cells)] = some (if (ofRes partRes x).1 = 0 then ⟨[.d (.sl 2 (ofRes partRes x).2.isEmpty (rows (ofRes partRes x).2)), .d .nilifc], []⟩ else ⟨[.d (.sl 2 true []), .d (err (ofRes partRes x).1)], []⟩) := by
  obtain ⟨c, t, m, bn, b, kn, ks⟩ := x
  simp only [Tlv.width] at hw
  simp only [Tlv.bytesOk] at hby
  rw [callN_run (fn := Try.f39) rfl rfl rfl (by simp [Try.ntmps39])]
  generalize hC : env.ctx 39 (callN env F (n+21)) (callP env F (n+21)) = C
  have htt : C.tt = env.tt := by rw [← hC]; rfl
  have hlin : C.lin = [4, 31] := by rw [← hC]; rfl
  have hcall : C.call = callN env F (n+21) := by rw [← hC]; rfl
  have hl1 : C.live 5 = [4, 17, 18, 19] := by rw [← hC]; rfl
  have hl2 : C.live 100005 = [2, 3, 4] := by rw [← hC]; rfl
  have k4 := fun c t m B kn ks tag many => t54 F (n+20) c t m B kn ks tag many
  have hisB : isB c t m ks.length 16 ks.length = decide (c = 0 ∧ t = 16 ∧ m = true) := by
    have h1 : ¬ ((ks.length : Int) < 0) := by omega
    have h2 : (0 : Int) ≤ ks.length := by omega
    simp [isB, h1, h2]
  simp only [Tlv.cells, ofRes]
  by_cases hm : c = 0 ∧ t = 16 ∧ m = true
  · have hnn : ¬ ¬ (c = 0 ∧ t = 16 ∧ m = true) := fun h => h hm
    simp only [if_neg hnn]
    simp only [hm, and_self, decide_true] at hisB
    obtain ⟨m1, m2, m3⟩ := hm
    subst m1 m2 m3
    have hL := fun st h => @loop60 C htt hlin F n B hB hBF hF hcall _ rfl (.int .i64 0) (.int .i64 16) (.bool true) (.nums .u8 bn b) kn ks (by omega) (fun x hx => widthL_mem hw.2.2 hx) (fun x hx => bytesOk_mem hby.2 hx) ks [] 0 F st rfl (by omega) (by simp; omega) (by omega) h
    simp only [ownR, List.isEmpty_nil, List.nil_append] at hL
    have r0 : rows [] = [] := rfl
    rw [r0] at hL
    cases hok : okR partRes ks with
    | true =>
      have hL2 := fun st h => ((hL st h).resolve_right (fun q => by rw [hok] at q; exact absurd q.1 (by simp))).2
      have hpl := preR_len partRes ks
      generalize hpre : preR partRes ks = pre at *
      by_cases h8 : 8 < pre.length
      · have e8 : (8 : Int) < pre.length := by omega
        cases pre with
        | nil => simp at h8
        | cons y pre =>
          simp only [List.length_cons] at h8
          have e8 : (8 : Int) < (pre.length : Int) + 1 := by omega
          have e8' : 8 < pre.length + 1 := h8
          simp [htt, hlin, hcall, ev_loop, hl1, hl2, hL2, k4, hisB, cellsL_len, rows_len, e8, e8', err]
      · have e8 : ¬ ((8 : Int) < pre.length) := by omega
        cases pre with
        | nil => simp [htt, hlin, hcall, ev_loop, hl1, hl2, hL2, k4, hisB, cellsL_len, rows_len]
        | cons y pre =>
          simp only [List.length_cons] at h8
          have e8 : ¬ ((8 : Int) < (pre.length : Int) + 1) := by omega
          have e8' : ¬ (8 < pre.length + 1) := h8
          simp [htt, hlin, hcall, ev_loop, hl1, hl2, hL2, k4, hisB, cellsL_len, rows_len, e8, e8']
    | false =>
      obtain ⟨f1, f2, f3, hL3⟩ := skol3 fun st h => ((hL st h).resolve_left (fun q => by rw [hok] at q; exact absurd q.1 (by simp))).2
      have hL2 := fun st h => (hL3 st h).1
      have hL4 := fun st h => (hL3 st h).2
      unfold err at hL2 ⊢
      simp [htt, hlin, hcall, ev_loop, hl1, hl2, hL2, hL4, k4, hisB, cellsL_len, rows_len]
  · simp only [if_pos hm]
    have hisB' : isB c t m ks.length 16 ks.length = false := by rw [hisB]; simpa using hm
    simp [htt, hlin, hcall, k4, hisB', cellsL_len, err]
end Go.Proofs.Ytmehkdomnhgmeaa
