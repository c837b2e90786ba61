/- What the reference's bytes and Write hand back: for all fine elements of some weight. -/
import Derived.Test.YtmehkdomnhgmeaaT56
namespace Go.Proofs.Ytmehkdomnhgmeaa
open Go Go.VM
set_option linter.unusedSimpArgs false
set_option linter.unusedVariables false
set_option maxRecDepth 100000
set_option maxHeartbeats 4000000

mutual
def Tlv.weight : Tlv → Nat
  | .mk _ _ _ _ b _ ks => 1 + b.length + Tlv.weightL ks
def Tlv.weightL : List Tlv → Nat
  | [] => 0
  | x :: l => x.weight + Tlv.weightL l
end
mutual
theorem light_weight : ∀ (d : Nat) (x : Tlv) (left : Int), 0 ≤ x.light d left → x.light d left = left - x.weight ∧ x.depth ≤ d
  | 0, x, left, h => by simp [Tlv.light] at h
  | d + 1, .mk _ _ _ _ b _ ks, left, h => by
    simp only [Tlv.light] at h ⊢
    split at h
    · omega
    · rename_i hn
      rw [if_neg hn]
      have := lightL_weight d ks (left - 1 - b.length) (by omega) h
      simp only [Tlv.weight, Tlv.depth]
      omega
theorem lightL_weight : ∀ (d : Nat) (l : List Tlv) (left : Int), 0 ≤ left → 0 ≤ Tlv.lightL d l left → Tlv.lightL d l left = left - Tlv.weightL l ∧ Tlv.depthL l ≤ d
  | d, [], left, h0, h => by simp [Tlv.lightL, Tlv.weightL, Tlv.depthL]
  | d, x :: l, left, h0, h => by
    simp only [Tlv.lightL] at h ⊢
    split at h
    · omega
    · rename_i hn
      rw [if_neg hn]
      have h1 := light_weight d x left (by omega)
      have h2 := lightL_weight d l (x.light d left) (by omega) h
      simp only [Tlv.weightL, Tlv.depthL]
      omega
end

def sizeB (n : Nat) : List Int := if n < 128 then [(n : Int)] else if n < 256 then [129, (n : Int)] else if n < 65536 then [130, (n : Int) / 256, (n : Int) % 256] else [131, (n : Int) / 65536, (n : Int) / 256 % 256, (n : Int) % 256]
def headB (c t : Int) (m : Bool) (n : Nat) : List Int := (64 * c + t + (if m then 32 else 0)) :: sizeB n
mutual
def Tlv.enc : Tlv → List Int
  | .mk c t m _ b _ ks => headB c t m (b ++ Tlv.encL ks).length ++ (b ++ Tlv.encL ks)
def Tlv.encL : List Tlv → List Int
  | [] => []
  | x :: l => x.enc ++ Tlv.encL l
end
theorem sizeB_le (n : Nat) : (sizeB n).length ≤ 4 := by
  unfold sizeB; repeat' split
  all_goals simp
mutual
theorem enc_le : ∀ x : Tlv, x.enc.length ≤ 6 * x.weight
  | .mk c t m _ b _ ks => by
    have := encL_le ks
    have h2 := sizeB_le (b ++ Tlv.encL ks).length
    simp only [Tlv.enc, Tlv.weight, headB, List.length_append, List.length_cons] at h2 ⊢
    omega
theorem encL_le : ∀ l : List Tlv, (Tlv.encL l).length ≤ 6 * Tlv.weightL l
  | [] => by simp [Tlv.encL]
  | x :: l => by
    have h1 := enc_le x
    have h2 := encL_le l
    simp only [Tlv.encL, Tlv.weightL, List.length_append]
    omega
end
theorem weightL_mem {x : Tlv} : ∀ {l : List Tlv}, x ∈ l → x.weight ≤ Tlv.weightL l
  | y :: l, h => by
    simp only [Tlv.weightL]
    rcases List.mem_cons.1 h with rfl | h
    · omega
    · have := weightL_mem h; omega
theorem fineL_mem {x : Tlv} : ∀ {l : List Tlv}, Tlv.fineL l = true → x ∈ l → x.fine = true
  | y :: l, hf, h => by
    simp only [Tlv.fineL, Bool.and_eq_true] at hf
    rcases List.mem_cons.1 h with rfl | h
    · exact hf.1
    · exact fineL_mem hf.2 h

theorem loop58 {C : Ctx} (htt : C.tt = env.tt) (hlin : C.lin = [6, 3, 8, 19, 44, 51, 58, 67, 80]) {F m : Nat} (hcall : C.call = callN env F m) {c : Code} (hc : loopAt 3 Try.f58 = some c) (p0 p1 p2 p3 : D) (kx : Bool) (a : List Tlv) (ha : a.length ≤ 140737488355328)
    (hrec : ∀ x ∈ a, callN env F m 58 [.d (.agg x.cells)] = some ⟨[.d (.nums .u8 false x.enc)], [0]⟩) :
    ∀ (us : List Tlv) (i k : Nat) (acc : List Int) (st : St), a.drop i = us → i ≤ a.length → us.length < k → acc.length + (Tlv.encL us).length ≤ 1000000 →
      st.trim 1 [1, 3, 4] = ⟨[(1, .ptr 0 0), (3, .d (.nums .u8 false acc)), (4, .d (.int .i64 i))], [some (.cells false [.d p0, .d p1, .d p2, .d p3, .d (.sl 5 kx (Tlv.cellsL a))])], [.t 3]⟩ →
      iter (ev C F c) 1 [1, 3, 4] [1, 2, 3] k st = some (.exit 0, ⟨[(1, .ptr 0 0), (3, .d (.nums .u8 false (acc ++ Tlv.encL us)))], [some (.cells false [.d p0, .d p1, .d p2, .d p3, .d (.sl 5 kx (Tlv.cellsL a))])], [.t 3]⟩) := by
  simp [loopAt, findLoop, Try.f58] at hc
  subst hc
  intro us
  induction us with
  | nil =>
    intro i k acc st hd hi hk' hm hst
    obtain ⟨k, rfl⟩ : ∃ j, k = j + 1 := ⟨k - 1, by simp at hk'; omega⟩
    have h0 := drop_nil hd
    have e0 : ¬ ((i : Int) < (a.length : Int)) := by omega
    rw [iter_eq, hst]
    simp [htt, hlin, e0, cellsL_len, Tlv.encL]
  | cons x us ih =>
    intro i k acc st hd hi hk' hm hst
    obtain ⟨k, rfl⟩ : ∃ j, k = j + 1 := ⟨k - 1, by simp at hk'; omega⟩
    simp at hk'
    obtain ⟨hd2, hlt⟩ := drop_succ hd
    have ra := cellsL_at hd
    have hx : x ∈ a := List.mem_of_getElem? (at_of_drop hd)
    have k1 := hrec x hx
    have e0 : (i : Int) < (a.length : Int) := by omega
    have e1 : (i : Int) + 1 ≤ 9223372036854775807 := by omega
    have e2 : (-9223372036854775808 : Int) ≤ (i : Int) + 1 := by omega
    have l5 := cells_five x
    have tk : x.cells.take 5 = x.cells := List.take_of_length_le (by omega)
    simp only [Tlv.encL, List.length_append] at hm
    have e3 : acc.length + x.enc.length ≤ 140737488355328 := by omega
    have ih' := fun st h => ih (i + 1) k (acc ++ x.enc) st hd2 (by omega) hk' (by simp; omega) h
    simp only [Tlv.encL]
    rw [iter_eq, hst]
    simp [htt, hlin, hcall, e0, e1, e2, e3, ra, cellsL_len, k1, ih', l5, tk]

theorem t58 (F : Nat) (hF : F ≤ 140737488355328) (B : Nat) (hB : B < F) : ∀ (d n : Nat) (x : Tlv), x.depth ≤ d → x.width B → x.fine = true → x.weight ≤ 20000 →
    callN env F (n + d) 58 [.d (.agg x.cells)] = some ⟨[.d (.nums .u8 false x.enc)], [0]⟩ := by
  intro d
  induction d with
  | zero => intro n x hd; cases x; simp [Tlv.depth] at hd
  | succ d ih =>
    intro n x hd hw hfi hwt
    obtain ⟨c, t, m, bn, b, kn, ks⟩ := x
    simp only [Tlv.depth] at hd
    simp only [Tlv.width] at hw
    simp only [Tlv.weight] at hwt
    simp only [Tlv.fine, Bool.and_eq_true, decide_eq_true_eq] at hfi
    rw [← Nat.add_assoc]
    rw [callN_run (fn := Try.f58) rfl rfl rfl (by simp [Try.ntmps58])]
    generalize hC : env.ctx 58 (callN env F (n+d)) (callP env F (n+d)) = C
    have htt : C.tt = env.tt := by rw [← hC]; rfl
    have hlin : C.lin = [6, 3, 8, 19, 44, 51, 58, 67, 80] := by rw [← hC]; rfl
    have hcall : C.call = callN env F (n+d) := by rw [← hC]; rfl
    have hl1 : C.live 3 = [1, 3, 4] := by rw [← hC]; rfl
    have hl2 : C.live 100003 = [1, 2, 3] := by rw [← hC]; rfl
    have hrec : ∀ x ∈ ks, callN env F (n+d) 58 [.d (.agg x.cells)] = some ⟨[.d (.nums .u8 false x.enc)], [0]⟩ := fun x hx =>
      ih n x (by have := depthL_mem hx; omega) (widthL_mem hw.2.2 hx) (fineL_mem hfi.2 hx) (by have := weightL_mem hx; omega)
    have hel := encL_le ks
    have hL := fun st h => @loop58 C htt hlin F (n+d) hcall _ rfl (.int .i64 c) (.int .i64 t) (.bool m) (.nums .u8 bn b) kn ks (by omega) hrec ks 0 F b st rfl (by omega) (by omega) (by omega) h
    simp only [Tlv.cells, Tlv.enc]
    have hlen : (b ++ Tlv.encL ks).length ≤ 120000 := by rw [List.length_append]; omega
    generalize hcont : b ++ Tlv.encL ks = ct at hL hlen ⊢
    obtain ⟨⟨c0, c1, t0, t1, _, _⟩, _⟩ := hfi
    have w1 : 64 * c ≤ 9223372036854775807 := by omega
    have w2 : (-9223372036854775808 : Int) ≤ 64 * c := by omega
    have w3 : 64 * c + t ≤ 9223372036854775807 := by omega
    have w4 : (-9223372036854775808 : Int) ≤ 64 * c + t := by omega
    have w5 : 64 * c + t + 32 ≤ 9223372036854775807 := by omega
    have w6 : (-9223372036854775808 : Int) ≤ 64 * c + t + 32 := by omega
    have w7 : 0 ≤ 64 * c + t := by omega
    have w8 : 64 * c + t ≤ 255 := by omega
    have w9 : 0 ≤ 64 * c + t + 32 := by omega
    have w10 : 64 * c + t + 32 ≤ 255 := by omega
    have hbl : b.length ≤ 140737488355328 := by omega
    have q1 : (ct.length : Int).tdiv 256 = (ct.length : Int) / 256 := Int.tdiv_eq_ediv_of_nonneg (by omega)
    have q2 : (ct.length : Int).tmod 256 = (ct.length : Int) % 256 := Int.tmod_eq_emod_of_nonneg (by omega)
    have q3 : (ct.length : Int).tdiv 65536 = (ct.length : Int) / 65536 := Int.tdiv_eq_ediv_of_nonneg (by omega)
    have q4 : ((ct.length : Int) / 256).tmod 256 = (ct.length : Int) / 256 % 256 := Int.tmod_eq_emod_of_nonneg (by omega)
    have r1 : 1 + ct.length ≤ 140737488355328 := by omega
    have r2 : 1 + 1 + ct.length ≤ 140737488355328 := by omega
    have r3 : 1 + 2 + ct.length ≤ 140737488355328 := by omega
    have hF1 : ct.length + 1 + 1 ≤ 140737488355328 := by omega
    unfold headB sizeB
    by_cases n1 : ct.length < 128
    · have i1 : (ct.length : Int) < 128 := by omega
      have i2 : (ct.length : Int) ≤ 255 := by omega
      have g1 : 1 + 1 + ct.length ≤ 140737488355328 := by omega
      have g2 : ct.length + 1 + 1 ≤ 140737488355328 := by omega
      cases m with
      | true => simp [htt, hlin, hcall, ev_loop, hl1, hl2, hL, n1, i1, i2, w1, w2, w3, w4, w5, w6, w9, w10, hbl, g1, g2]
      | false => simp [htt, hlin, hcall, ev_loop, hl1, hl2, hL, n1, i1, i2, w1, w2, w3, w4, w7, w8, hbl, g1, g2]
    · have i1 : ¬ ((ct.length : Int) < 128) := by omega
      by_cases n2 : ct.length < 256
      · have i2 : (ct.length : Int) < 256 := by omega
        have i3 : (ct.length : Int) ≤ 255 := by omega
        have g1 : 1 + 2 + ct.length ≤ 140737488355328 := by omega
        have g2 : ct.length + 1 + 1 + 1 ≤ 140737488355328 := by omega
        cases m with
        | true => simp [htt, hlin, hcall, ev_loop, hl1, hl2, hL, n1, n2, i1, i2, i3, w1, w2, w3, w4, w5, w6, w9, w10, hbl, g1, g2]
        | false => simp [htt, hlin, hcall, ev_loop, hl1, hl2, hL, n1, n2, i1, i2, i3, w1, w2, w3, w4, w7, w8, hbl, g1, g2]
      · have i2 : ¬ ((ct.length : Int) < 256) := by omega
        have u1 : (ct.length : Int) / 256 ≤ 9223372036854775807 := by omega
        have u2 : (-9223372036854775808 : Int) ≤ (ct.length : Int) / 256 := by omega
        have u3 : (ct.length : Int) % 256 ≤ 9223372036854775807 := by omega
        have u4 : (-9223372036854775808 : Int) ≤ (ct.length : Int) % 256 := by omega
        have u5 : 0 ≤ (ct.length : Int) % 256 := by omega
        have u6 : (ct.length : Int) % 256 ≤ 255 := by omega
        by_cases n3 : ct.length < 65536
        · have i3 : (ct.length : Int) < 65536 := by omega
          have u7 : 0 ≤ (ct.length : Int) / 256 := by omega
          have u8 : (ct.length : Int) / 256 ≤ 255 := by omega
          have g1 : 1 + 3 + ct.length ≤ 140737488355328 := by omega
          have g2 : ct.length + 1 + 1 + 1 + 1 ≤ 140737488355328 := by omega
          cases m with
          | true => simp [htt, hlin, hcall, ev_loop, hl1, hl2, hL, n1, n2, n3, i1, i2, i3, w1, w2, w3, w4, w5, w6, w9, w10, hbl, q1, q2, u1, u2, u3, u4, u5, u6, u7, u8, g1, g2]
          | false => simp [htt, hlin, hcall, ev_loop, hl1, hl2, hL, n1, n2, n3, i1, i2, i3, w1, w2, w3, w4, w7, w8, hbl, q1, q2, u1, u2, u3, u4, u5, u6, u7, u8, g1, g2]
        · have i3 : ¬ ((ct.length : Int) < 65536) := by omega
          have v1 : (ct.length : Int) / 65536 ≤ 9223372036854775807 := by omega
          have v2 : (-9223372036854775808 : Int) ≤ (ct.length : Int) / 65536 := by omega
          have v3 : 0 ≤ (ct.length : Int) / 65536 := by omega
          have v4 : (ct.length : Int) / 65536 ≤ 255 := by omega
          have v5 : (ct.length : Int) / 256 % 256 ≤ 9223372036854775807 := by omega
          have v6 : (-9223372036854775808 : Int) ≤ (ct.length : Int) / 256 % 256 := by omega
          have v7 : 0 ≤ (ct.length : Int) / 256 % 256 := by omega
          have v8 : (ct.length : Int) / 256 % 256 ≤ 255 := by omega
          have g1 : 1 + 4 + ct.length ≤ 140737488355328 := by omega
          have g2 : ct.length + 1 + 1 + 1 + 1 + 1 ≤ 140737488355328 := by omega
          cases m with
          | true => simp [htt, hlin, hcall, ev_loop, hl1, hl2, hL, n1, n2, n3, i1, i2, i3, w1, w2, w3, w4, w5, w6, w9, w10, hbl, q1, q2, q3, q4, u1, u2, u3, u4, u5, u6, v1, v2, v3, v4, v5, v6, v7, v8, g1, g2]
          | false => simp [htt, hlin, hcall, ev_loop, hl1, hl2, hL, n1, n2, n3, i1, i2, i3, w1, w2, w3, w4, w7, w8, hbl, q1, q2, q3, q4, u1, u2, u3, u4, u5, u6, v1, v2, v3, v4, v5, v6, v7, v8, g1, g2]
end Go.Proofs.Ytmehkdomnhgmeaa
