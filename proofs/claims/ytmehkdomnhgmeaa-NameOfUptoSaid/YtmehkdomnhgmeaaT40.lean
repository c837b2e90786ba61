/- What the reference's Light, fine and Depth hand back: for all elements of some width. -/
import Derived.Test.YtmehkdomnhgmeaaT37
namespace Go.Proofs.Ytmehkdomnhgmeaa
open Go Go.VM
set_option linter.unusedSimpArgs false
set_option linter.unusedVariables false
set_option maxRecDepth 100000
set_option maxHeartbeats 4000000

mutual
/-- How wide it is. -/
def Tlv.width (B : Nat) : Tlv → Prop
  | .mk _ _ _ _ b _ ks => b.length ≤ B ∧ ks.length ≤ B ∧ Tlv.widthL B ks
def Tlv.widthL (B : Nat) : List Tlv → Prop
  | [] => True
  | x :: l => x.width B ∧ Tlv.widthL B l
end
theorem widthL_mem {B : Nat} {x : Tlv} : ∀ {l : List Tlv}, Tlv.widthL B l → x ∈ l → x.width B
  | y :: l, hf, h => by
    simp only [Tlv.widthL] at hf
    rcases List.mem_cons.1 h with rfl | h
    · exact hf.1
    · exact widthL_mem hf.2 h

mutual
def Tlv.light : Nat → Tlv → Int → Int
  | 0, _, _ => -1
  | d + 1, .mk _ _ _ _ b _ ks, left => if left - 1 - b.length < 0 then -1 else Tlv.lightL d ks (left - 1 - b.length)
def Tlv.lightL : Nat → List Tlv → Int → Int
  | _, [], left => left
  | d, x :: l, left => if x.light d left < 0 then -1 else Tlv.lightL d l (x.light d left)
end

mutual
theorem light_le : ∀ (d : Nat) (x : Tlv) (left : Int), -1 ≤ x.light d left ∧ (0 ≤ left → x.light d left ≤ left)
  | 0, x, left => by simp [Tlv.light]; omega
  | d + 1, .mk _ _ _ _ b _ ks, left => by
    simp only [Tlv.light]
    split
    · omega
    · have := lightL_le d ks (left - 1 - b.length) (by omega)
      omega
theorem lightL_le : ∀ (d : Nat) (l : List Tlv) (left : Int), 0 ≤ left → -1 ≤ Tlv.lightL d l left ∧ Tlv.lightL d l left ≤ left
  | d, [], left, h => by simp [Tlv.lightL]; omega
  | d, x :: l, left, h => by
    simp only [Tlv.lightL]
    have h1 := light_le d x left
    split
    · omega
    · have := lightL_le d l (x.light d left) (by omega)
      omega
end

theorem loop40 {C : Ctx} (htt : C.tt = env.tt) (hlin : C.lin = []) {F m d : Nat} (hcall : C.call = callN env F m) {c : Code} (hc : loopAt 5 Try.f40 = some c) (p0 p1 p2 p3 : D) (kx : Bool) (a : List Tlv) (ha : a.length ≤ 140737488355328) (hd50 : d ≤ 50)
    (hrec : ∀ x ∈ a, ∀ left : Int, 0 ≤ left → left ≤ 20000 → callN env F m 40 [.d (.agg x.cells), .d (.int .i64 left), .d (.int .i64 d)] = some ⟨[.d (.int .i64 (x.light d left))], []⟩) :
    ∀ (us : List Tlv) (i k : Nat) (left : Int) (st : St), a.drop i = us → i ≤ a.length → us.length < k → 0 ≤ left → left ≤ 20000 →
      st.trim 1 [1, 2, 3, 7] = ⟨[(1, .d (.int .i64 left)), (2, .d (.int .i64 (d + 1))), (3, .ptr 0 0), (7, .d (.int .i64 i))], [some (.cells false [.d p0, .d p1, .d p2, .d p3, .d (.sl 5 kx (Tlv.cellsL a))])], []⟩ →
      (0 ≤ Tlv.lightL d us left ∧ iter (ev C F c) 1 [1, 2, 3, 7] [1, 6] k st = some (.exit 0, ⟨[(1, .d (.int .i64 (Tlv.lightL d us left)))], [some (.cells false [.d p0, .d p1, .d p2, .d p3, .d (.sl 5 kx (Tlv.cellsL a))])], []⟩)) ∨
      (Tlv.lightL d us left = -1 ∧ iter (ev C F c) 1 [1, 2, 3, 7] [1, 6] k st = some (.ret, ⟨[(1, .d (.int .i64 (-1))), (6, .d (.int .i64 (-1)))], [some (.cells false [.d p0, .d p1, .d p2, .d p3, .d (.sl 5 kx (Tlv.cellsL a))])], []⟩)) := by
  simp [loopAt, findLoop, Try.f40] at hc
  subst hc
  intro us
  induction us with
  | nil =>
    intro i k left st hd hi hk' h0l hl2 hst
    obtain ⟨k, rfl⟩ : ∃ j, k = j + 1 := ⟨k - 1, by simp at hk'; omega⟩
    have h0 := drop_nil hd
    have e0 : ¬ ((i : Int) < (a.length : Int)) := by omega
    left
    refine ⟨by simpa [Tlv.lightL] using h0l, ?_⟩
    rw [iter_eq, hst]
    simp [htt, hlin, e0, cellsL_len, Tlv.lightL]
  | cons x us ih =>
    intro i k left st hd hi hk' h0l hl2 hst
    obtain ⟨k, rfl⟩ : ∃ j, k = j + 1 := ⟨k - 1, by simp at hk'; omega⟩
    simp at hk'
    obtain ⟨hd2, hlt⟩ := drop_succ hd
    have ra := cellsL_at hd
    have hx : x ∈ a := List.mem_of_getElem? (at_of_drop hd)
    have k1 := hrec x hx left h0l hl2
    have hle := light_le d x left
    have e0 : (i : Int) < (a.length : Int) := by omega
    have e1 : (i : Int) + 1 ≤ 9223372036854775807 := by omega
    have e2 : (-9223372036854775808 : Int) ≤ (i : Int) + 1 := by omega
    have e3 : (d : Int) ≤ 9223372036854775807 := by omega
    have e4 : (-9223372036854775808 : Int) ≤ (d : Int) := by omega
    have l5 := cells_five x
    have tk : x.cells.take 5 = x.cells := List.take_of_length_le (by omega)
    rw [iter_eq, hst]
    by_cases hs : x.light d left < 0
    · right
      have hm1 : x.light d left = -1 := by omega
      refine ⟨by simp [Tlv.lightL, hs], ?_⟩
      rw [hm1] at k1
      simp [htt, hlin, hcall, e0, e1, e2, e3, e4, ra, cellsL_len, k1, l5, tk]
    · have ih' := fun st h => ih (i + 1) k (x.light d left) st hd2 (by omega) hk' (by omega) (by omega) h
      simp only [Tlv.lightL, if_neg hs]
      by_cases hz : 0 ≤ Tlv.lightL d us (x.light d left)
      · left
        refine ⟨hz, ?_⟩
        have ih2 := fun st h => ((ih' st h).resolve_right (fun q => by omega)).2
        simp [htt, hlin, hcall, e0, e1, e2, e3, e4, ra, cellsL_len, k1, l5, tk, hs, ih2]
      · right
        have hr := lightL_le d us (x.light d left) (by omega)
        refine ⟨by omega, ?_⟩
        have ih2 := fun st h => ((ih' st h).resolve_left (fun q => by omega)).2
        simp [htt, hlin, hcall, e0, e1, e2, e3, e4, ra, cellsL_len, k1, l5, tk, hs, ih2]

theorem t40 (F : Nat) (hF : F ≤ 140737488355328) (B : Nat) (hB : B < F) : ∀ (d n : Nat) (x : Tlv) (left : Int), d ≤ 50 → x.width B → 0 ≤ left → left ≤ 20000 →
    callN env F (n + d + 1) 40 [.d (.agg x.cells), .d (.int .i64 left), .d (.int .i64 d)] = some ⟨[.d (.int .i64 (x.light d left))], []⟩ := by
  intro d
  induction d with
  | zero =>
    intro n x left _ hw h0 h1
    obtain ⟨c, t, m, bn, b, kn, ks⟩ := x
    simp only [Tlv.width] at hw
    rw [callN_run (fn := Try.f40) rfl rfl rfl (by simp [Try.ntmps40])]
    generalize hC : env.ctx 40 (callN env F (n+0)) (callP env F (n+0)) = C
    have htt : C.tt = env.tt := by rw [← hC]; rfl
    have hlin : C.lin = [] := by rw [← hC]; rfl
    have e1 : left - 1 - (b.length : Int) ≤ 9223372036854775807 := by omega
    have e2 : (-9223372036854775808 : Int) ≤ left - 1 - (b.length : Int) := by omega
    have e3 : left - 1 ≤ 9223372036854775807 := by omega
    have e4 : (-9223372036854775808 : Int) ≤ left - 1 := by omega
    simp [htt, hlin, Tlv.cells, Tlv.light, e1, e2, e3, e4]
  | succ d ih =>
    intro n x left hd50 hw h0 h1
    obtain ⟨c, t, m, bn, b, kn, ks⟩ := x
    simp only [Tlv.width] at hw
    rw [show n + (d + 1) + 1 = (n + d + 1) + 1 by omega]
    rw [callN_run (fn := Try.f40) rfl rfl rfl (by simp [Try.ntmps40])]
    generalize hC : env.ctx 40 (callN env F (n+d+1)) (callP env F (n+d+1)) = C
    have htt : C.tt = env.tt := by rw [← hC]; rfl
    have hlin : C.lin = [] := by rw [← hC]; rfl
    have hcall : C.call = callN env F (n+d+1) := by rw [← hC]; rfl
    have hl1 : C.live 5 = [1, 2, 3, 7] := by rw [← hC]; rfl
    have hl2 : C.live 100005 = [1, 6] := by rw [← hC]; rfl
    have e1 : left - 1 - (b.length : Int) ≤ 9223372036854775807 := by omega
    have e2 : (-9223372036854775808 : Int) ≤ left - 1 - (b.length : Int) := by omega
    have e3 : left - 1 ≤ 9223372036854775807 := by omega
    have e4 : (-9223372036854775808 : Int) ≤ left - 1 := by omega
    have e5 : ¬ ((d : Int) + 1 = 0) := by omega
    simp only [Tlv.cells, Tlv.light]
    by_cases hneg : left - 1 - (b.length : Int) < 0
    · simp [htt, hlin, e1, e2, e3, e4, e5, hneg]
    · have hL := fun st h => @loop40 C htt hlin F (n+d+1) d hcall _ rfl (.int .i64 c) (.int .i64 t) (.bool m) (.nums .u8 bn b) kn ks (by omega) (by omega)
        (fun x hx left h0 h1 => ih n x left (by omega) (widthL_mem hw.2.2 hx) h0 h1) ks 0 F (left - 1 - b.length) st rfl (by omega) (by omega) (by omega) (by omega) h
      by_cases hz : 0 ≤ Tlv.lightL d ks (left - 1 - b.length)
      · have hL2 := fun st h => ((hL st h).resolve_right (fun q => by omega)).2
        simp [htt, hlin, hcall, ev_loop, hl1, hl2, hL2, e1, e2, e3, e4, e5, hneg]
      · have hr := lightL_le d ks (left - 1 - b.length) (by omega)
        have hm1 : Tlv.lightL d ks (left - 1 - b.length) = -1 := by omega
        have hL2 := fun st h => ((hL st h).resolve_left (fun q => by omega)).2
        simp [htt, hlin, hcall, ev_loop, hl1, hl2, hL2, e1, e2, e3, e4, e5, hneg, hm1]
end Go.Proofs.Ytmehkdomnhgmeaa
