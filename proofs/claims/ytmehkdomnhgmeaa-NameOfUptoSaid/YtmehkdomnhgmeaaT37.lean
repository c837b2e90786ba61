/- What the reference's Same hands back: for all elements that are not too wide. -/
import Derived.Test.YtmehkdomnhgmeaaT35
namespace Go.Proofs.Ytmehkdomnhgmeaa
open Go Go.VM
set_option linter.unusedSimpArgs false
set_option linter.unusedVariables false
set_option maxRecDepth 100000
set_option maxHeartbeats 4000000

/-- An element. -/
inductive Tlv where
  | mk (cls tag : Int) (made bnil : Bool) (body : List Int) (knil : Bool) (kids : List Tlv)

mutual
def Tlv.cells : Tlv → List D
  | .mk c t m bn b kn ks => [.int .i64 c, .int .i64 t, .bool m, .nums .u8 bn b, .sl 5 kn (Tlv.cellsL ks)]
def Tlv.cellsL : List Tlv → List (List D)
  | [] => []
  | x :: l => x.cells :: Tlv.cellsL l
end
mutual
def Tlv.same : Tlv → Tlv → Bool
  | .mk c t m _ b _ ks, .mk c' t' m' _ b' _ ks' => decide (c = c' ∧ t = t' ∧ m = m' ∧ b = b' ∧ ks.length = ks'.length) && Tlv.sameL ks ks'
def Tlv.sameL : List Tlv → List Tlv → Bool
  | x :: l, y :: l' => x.same y && Tlv.sameL l l'
  | _, _ => true
end
mutual
def Tlv.depth : Tlv → Nat
  | .mk _ _ _ _ _ _ ks => Tlv.depthL ks + 1
def Tlv.depthL : List Tlv → Nat
  | [] => 0
  | x :: l => max x.depth (Tlv.depthL l)
end
mutual
def Tlv.fits (F : Nat) : Tlv → Prop
  | .mk _ _ _ _ _ _ ks => ks.length < F ∧ Tlv.fitsL F ks
def Tlv.fitsL (F : Nat) : List Tlv → Prop
  | [] => True
  | x :: l => x.fits F ∧ Tlv.fitsL F l
end

theorem cellsL_len : ∀ l : List Tlv, (Tlv.cellsL l).length = l.length
  | [] => rfl
  | x :: l => by simp [Tlv.cellsL, cellsL_len l]
theorem cellsL_map : ∀ l : List Tlv, Tlv.cellsL l = l.map Tlv.cells
  | [] => rfl
  | x :: l => by simp [Tlv.cellsL, cellsL_map l]
theorem cellsL_at {l : List Tlv} {i : Nat} {x : Tlv} {t : List Tlv} (h : l.drop i = x :: t) : (Tlv.cellsL l)[i]? = some x.cells := by
  rw [cellsL_map, List.getElem?_map, at_of_drop h]; rfl
theorem depthL_mem {x : Tlv} : ∀ {l : List Tlv}, x ∈ l → x.depth ≤ Tlv.depthL l
  | y :: l, h => by
    simp only [Tlv.depthL]
    rcases List.mem_cons.1 h with rfl | h
    · omega
    · have := depthL_mem h; omega
theorem fitsL_mem {F : Nat} {x : Tlv} : ∀ {l : List Tlv}, Tlv.fitsL F l → x ∈ l → x.fits F
  | y :: l, hf, h => by
    simp only [Tlv.fitsL] at hf
    rcases List.mem_cons.1 h with rfl | h
    · exact hf.1
    · exact fitsL_mem hf.2 h

theorem cells_five (x : Tlv) : x.cells.length = 5 := by cases x; rfl

theorem loop37 {C : Ctx} (htt : C.tt = env.tt) (hlin : C.lin = []) (hl6 : C.live 200006 = []) {F m : Nat} (hcall : C.call = callN env F m) {c : Code} (hc : loopAt 4 Try.f37 = some c) (p0 p1 p2 p3 q0 q1 q2 q3 : D) (kx ky : Bool) (a b : List Tlv)
    (hab : a.length = b.length) (ha : a.length ≤ 140737488355328)
    (hrec : ∀ x ∈ a, ∀ y, callN env F m 37 [.d (.agg x.cells), .d (.agg y.cells)] = some ⟨[.d (.bool (x.same y))], []⟩) :
    ∀ (us vs : List Tlv) (i k : Nat) (st : St), a.drop i = us → b.drop i = vs → i ≤ a.length → us.length < k →
      st.trim 2 [2, 3, 5] = ⟨[(2, .ptr 0 0), (3, .ptr 1 0), (5, .d (.int .i64 i))], [some (.cells false [.d p0, .d p1, .d p2, .d p3, .d (.sl 5 kx (Tlv.cellsL a))]), some (.cells false [.d q0, .d q1, .d q2, .d q3, .d (.sl 5 ky (Tlv.cellsL b))])], []⟩ →
      iter (ev C F c) 2 [2, 3, 5] [4] k st = if Tlv.sameL us vs then some (.exit 0, ⟨[], [some (.cells false [.d p0, .d p1, .d p2, .d p3, .d (.sl 5 kx (Tlv.cellsL a))]), some (.cells false [.d q0, .d q1, .d q2, .d q3, .d (.sl 5 ky (Tlv.cellsL b))])], []⟩) else some (.ret, ⟨[(4, .d (.bool false))], [some (.cells false [.d p0, .d p1, .d p2, .d p3, .d (.sl 5 kx (Tlv.cellsL a))]), some (.cells false [.d q0, .d q1, .d q2, .d q3, .d (.sl 5 ky (Tlv.cellsL b))])], []⟩) := by
  simp [loopAt, findLoop, Try.f37] at hc
  subst hc
  intro us
  induction us with
  | nil =>
    intro vs i k st hd hd' hi hk' hst
    obtain ⟨k, rfl⟩ : ∃ j, k = j + 1 := ⟨k - 1, by simp at hk'; omega⟩
    have h0 := drop_nil hd
    have e0 : ¬ ((i : Int) < (a.length : Int)) := by omega
    have hb : vs = [] := by rw [← hd', List.drop_eq_nil_of_le (by omega)]
    subst hb
    rw [iter_eq, hst]
    simp [htt, hlin, e0, cellsL_len, Tlv.sameL]
  | cons x us ih =>
    intro vs i k st hd hd' hi hk' hst
    obtain ⟨k, rfl⟩ : ∃ j, k = j + 1 := ⟨k - 1, by simp at hk'; omega⟩
    simp at hk'
    obtain ⟨hd2, hlt⟩ := drop_succ hd
    cases vs with
    | nil => have := drop_nil hd'; omega
    | cons y vs =>
      obtain ⟨hd2', hlt'⟩ := drop_succ hd'
      have ra := cellsL_at hd
      have rb := cellsL_at hd'
      have hx : x ∈ a := List.mem_of_getElem? (at_of_drop hd)
      have k1 := hrec x hx y
      have e0 : (i : Int) < (a.length : Int) := by omega
      have e1 : (i : Int) + 1 ≤ 9223372036854775807 := by omega
      have e2 : (-9223372036854775808 : Int) ≤ (i : Int) + 1 := by omega
      have ih' := fun st h => ih vs (i + 1) k st hd2 hd2' (by omega) hk' h
      have l5 := cells_five x
      have m5 := cells_five y
      have tk : x.cells.take 5 = x.cells := List.take_of_length_le (by omega)
      have tk' : y.cells.take 5 = y.cells := List.take_of_length_le (by omega)
      rw [iter_eq, hst]
      cases hs : x.same y with
      | true =>
        rw [hs] at k1
        simp [htt, hlin, hl6, hcall, e0, e1, e2, ra, rb, cellsL_len, Tlv.sameL, k1, hs, ih', l5, m5, tk, tk']
      | false =>
        rw [hs] at k1
        simp [htt, hlin, hl6, hcall, e0, e1, e2, ra, rb, cellsL_len, Tlv.sameL, k1, hs, l5, m5, tk, tk']

theorem t37 (F : Nat) (hF : F ≤ 140737488355328) : ∀ (d n : Nat) (x y : Tlv), x.depth ≤ d → x.fits F →
    callN env F (n + d) 37 [.d (.agg x.cells), .d (.agg y.cells)] = some ⟨[.d (.bool (x.same y))], []⟩ := by
  intro d
  induction d with
  | zero => intro n x y hd; cases x; simp [Tlv.depth] at hd
  | succ d ih =>
    intro n x y hd hfx
    obtain ⟨c, t, m, bn, b, kn, ks⟩ := x
    obtain ⟨c', t', m', bn', b', kn', ks'⟩ := y
    simp only [Tlv.depth] at hd
    simp only [Tlv.fits] at hfx
    rw [← Nat.add_assoc]
    rw [callN_run (fn := Try.f37) rfl rfl rfl (by simp [Try.ntmps37])]
    generalize hC : env.ctx 37 (callN env F (n+d)) (callP env F (n+d)) = C
    have htt : C.tt = env.tt := by rw [← hC]; rfl
    have hlin : C.lin = [] := by rw [← hC]; rfl
    have hcall : C.call = callN env F (n+d) := by rw [← hC]; rfl
    have hl1 : C.live 4 = [2, 3, 5] := by rw [← hC]; rfl
    have hl2 : C.live 100004 = [4] := by rw [← hC]; rfl
    have hl6 : C.live 200006 = [] := by rw [← hC]; rfl
    have hrec : ∀ x ∈ ks, ∀ y, callN env F (n+d) 37 [.d (.agg x.cells), .d (.agg y.cells)] = some ⟨[.d (.bool (x.same y))], []⟩ := fun x hx y =>
      ih n x y (by have := depthL_mem hx; omega) (fitsL_mem hfx.2 hx)
    simp only [Tlv.cells, Tlv.same]
    by_cases h1 : c = c'
    · subst h1
      by_cases h2 : t = t'
      · subst h2
        by_cases h3 : m = m'
        · subst h3
          by_cases h4 : b = b'
          · subst h4
            by_cases h5 : ks.length = ks'.length
            · have e5 : (ks.length : Int) = ks'.length := by omega
              have hL := fun st h => @loop37 C htt hlin hl6 F (n+d) hcall _ rfl (.int .i64 c) (.int .i64 t) (.bool m) (.nums .u8 bn b) (.int .i64 c) (.int .i64 t) (.bool m) (.nums .u8 bn' b) kn kn' ks ks' h5 (by omega) hrec ks ks' 0 F st rfl rfl (by omega) hfx.1 h
              cases hs : Tlv.sameL ks ks' with
              | true => simp [htt, hlin, hcall, ev_loop, hl1, hl2, hL, cellsL_len, h5, e5, hs]
              | false => simp [htt, hlin, hcall, ev_loop, hl1, hl2, hL, cellsL_len, h5, e5, hs]
            · have e5 : ¬ ((ks.length : Int) = ks'.length) := by omega
              simp [htt, hlin, hcall, cellsL_len, h5, e5]
          · simp [htt, hlin, hcall, cellsL_len, h4]
        · have e3 : (m == m') = false := by simpa using h3
          simp [htt, hlin, hcall, cellsL_len, h3, e3]
      · simp [htt, hlin, hcall, cellsL_len, h2]
    · simp [htt, hlin, hcall, cellsL_len, h1]
end Go.Proofs.Ytmehkdomnhgmeaa
