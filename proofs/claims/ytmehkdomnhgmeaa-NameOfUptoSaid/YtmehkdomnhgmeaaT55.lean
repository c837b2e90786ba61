/- What name.part hands back: for every element of some width. -/
import Derived.Test.YtmehkdomnhgmeaaT27
import Derived.Test.YtmehkdomnhgmeaaT41
namespace Go.Proofs.Ytmehkdomnhgmeaa
open Go Go.VM
set_option linter.unusedSimpArgs false
set_option linter.unusedVariables false
set_option maxRecDepth 100000
set_option maxHeartbeats 8000000

mutual
def Tlv.bytesOk : Tlv → Prop
  | .mk _ _ _ _ b _ ks => (∀ c ∈ b, 0 ≤ c ∧ c < 256) ∧ Tlv.bytesOkL ks
def Tlv.bytesOkL : List Tlv → Prop
  | [] => True
  | x :: l => x.bytesOk ∧ Tlv.bytesOkL l
end

def noPart : (Int × List Int) × Bool := ((0, []), false)
def tailRes (bo bs : List Int) : (Int × List Int) × Bool :=
  match oidOf bo with
  | .inr [a, b, d, k] => if a = 2 ∧ b = 5 ∧ d = 4 ∧ k ≤ 255 ∧ isKind k = true then ((k, if textBad bs = 0 then bs else []), decide (textBad bs = 0)) else noPart
  | _ => noPart
def partRes : Tlv → (Int × List Int) × Bool
  | .mk c t m _ _ _ ks => if isB c t m ks.length 17 1 = false then noPart else match ks with
    | [.mk c2 t2 m2 _ _ _ ks2] => if isB c2 t2 m2 ks2.length 16 2 = false then noPart else match ks2 with
      | [.mk co to mo _ bo _ kso, .mk cs ts ms _ bs _ kss] => if isB co to mo kso.length 6 (-1) = false then noPart else if isB cs ts ms kss.length 12 (-1) = false then noPart else tailRes bo bs
      | _ => noPart
    | _ => noPart

theorem isB_len {c t : Int} {m : Bool} {n : Nat} {tag many : Int} (h : isB c t m n tag many = true) (hm : 0 ≤ many) : (n : Int) = many := by
  simp [isB] at h
  rcases h.2.2 with ⟨h1, _⟩ | ⟨_, _, h2⟩
  · omega
  · exact h2

theorem oid_range {s : List Int} {a b d k : Int} (h : oidOf s = .inr [a, b, d, k]) : 0 ≤ k ∧ k ≤ 1099511627776 := by
  unfold oidOf at h
  split at h
  · rename_i l0 t hr
    split at h
    · cases h
    · split at h
      · cases h
      · simp only [Sum.inr.injEq, List.cons.injEq] at h
        obtain ⟨_, _, h⟩ := h
        have := arcs_range s 0 true [] _ _ (by omega) (by simp) hr k (by rw [h]; simp)
        exact this
  · cases h

theorem t55g (F n B : Nat) (hB : B ≤ 1000000) (hBF : B < F) (hF : 200 ≤ F) (x : Tlv) (hw : x.width B) (hby : x.bytesOk) :
    callN env F (n+21) 55 [.d (.agg x.cells)] = some ⟨[.d (.agg [.int .i64 (partRes x).1.1, .str (partRes x).1.2]), .d (.bool (partRes x).2)], []⟩ := by
  obtain ⟨c, t, m, bn, b, kn, ks⟩ := x
  simp only [Tlv.width] at hw
  simp only [Tlv.bytesOk] at hby
  rw [callN_run (fn := Try.f55) rfl rfl rfl (by simp [Try.ntmps55])]
  generalize hC : env.ctx 55 (callN env F (n+20)) (callP env F (n+20)) = C
  have htt : C.tt = env.tt := by rw [← hC]; rfl
  have hlin : C.lin = [] := by rw [← hC]; rfl
  have hcall : C.call = callN env F (n+20) := by rw [← hC]; rfl
  have hl3 : C.live 200003 = [8, 11, 13, 16] := by rw [← hC]; rfl
  have hl10 : C.live 200010 = [] := by rw [← hC]; rfl
  have k4 := fun c t m B kn ks tag many => t54 F (n+19) c t m B kn ks tag many
  simp only [Tlv.cells, partRes]
  cases h1 : isB c t m ks.length 17 1 with
  | false => simp [htt, hlin, hcall, k4, cellsL_len, h1, noPart, bytesI]
  | true =>
    have hl := isB_len h1 (by omega)
    have hl' : ks.length = 1 := by omega
    match ks, hl', hw, hby with
    | [.mk c2 t2 m2 bn2 b2 kn2 ks2], _, hw, hby =>
      simp at h1
      cases h2 : isB c2 t2 m2 ks2.length 16 2 with
      | false => simp [htt, hlin, hcall, k4, Tlv.cellsL, Tlv.cells, cellsL_len, h1, h2, noPart, bytesI]
      | true =>
        have hl2 := isB_len h2 (by omega)
        have hl2' : ks2.length = 2 := by omega
        match ks2, hl2', hw, hby with
        | [.mk co to mo bno bo kno kso, .mk cs ts ms bns bs kns kss], _, hw, hby =>
          simp at h2
          simp only [Tlv.widthL, Tlv.width] at hw
          simp only [Tlv.bytesOkL, Tlv.bytesOk] at hby
          have k1 := t27 F (n+18) bno bo (by omega) hby.2.1.2.1.1 (by omega)
          have k2 := t28 F (n+16) bns bs (by omega) (by omega)
          have k3 := fun k => t51 F (n+19) k
          cases h3 : isB co to mo kso.length 6 (-1) with
          | false => simp [htt, hlin, hcall, hl3, k4, Tlv.cellsL, Tlv.cells, cellsL_len, h1, h2, h3, noPart, bytesI]
          | true =>
            cases h4 : isB cs ts ms kss.length 12 (-1) with
            | false => simp [htt, hlin, hcall, hl3, k4, Tlv.cellsL, Tlv.cells, cellsL_len, h1, h2, h3, h4, noPart, bytesI]
            | true =>
              unfold tailRes
              cases ho : oidOf bo with
              | inl e =>
                rw [ho] at k1
                unfold err at k1
                simp at k1
                simp [htt, hlin, hcall, hl3, hl10, k1, k2, k3, k4, Tlv.cellsL, Tlv.cells, cellsL_len, h1, h2, h3, h4, ho, noPart, bytesI]
              | inr o =>
                rw [ho] at k1
                simp at k1
                match o, ho, k1 with
                | [], ho, k1 => simp [htt, hlin, hcall, hl3, hl10, k1, k2, k3, k4, Tlv.cellsL, Tlv.cells, cellsL_len, h1, h2, h3, h4, ho, noPart, bytesI]
                | [_], ho, k1 => simp [htt, hlin, hcall, hl3, hl10, k1, k2, k3, k4, Tlv.cellsL, Tlv.cells, cellsL_len, h1, h2, h3, h4, ho, noPart, bytesI]
                | [_, _], ho, k1 => simp [htt, hlin, hcall, hl3, hl10, k1, k2, k3, k4, Tlv.cellsL, Tlv.cells, cellsL_len, h1, h2, h3, h4, ho, noPart, bytesI]
                | [_, _, _], ho, k1 => simp [htt, hlin, hcall, hl3, hl10, k1, k2, k3, k4, Tlv.cellsL, Tlv.cells, cellsL_len, h1, h2, h3, h4, ho, noPart, bytesI]
                | _ :: _ :: _ :: _ :: _ :: t, ho, k1 =>
                  have e1 : ¬ ((t.length : Int) + 1 + 1 + 1 + 1 + 1 = 4) := by omega
                  simp [htt, hlin, hcall, hl3, hl10, k1, k2, k3, k4, Tlv.cellsL, Tlv.cells, cellsL_len, h1, h2, h3, h4, ho, noPart, bytesI, e1]
                | [a, q, d, k], ho, k1 =>
                  obtain ⟨r0, r1⟩ := oid_range ho
                  by_cases g1 : a = 2
                  · by_cases g2 : q = 5
                    · by_cases g3 : d = 4
                      · by_cases g4 : k ≤ 255
                        · have g4' : ¬ (255 < k) := by omega
                          have w1 : k ≤ 9223372036854775807 := by omega
                          have w2 : -9223372036854775808 ≤ k := by omega
                          cases g5 : isKind k with
                          | false =>
                            have k3' := k3 k
                            rw [g5] at k3'
                            simp [htt, hlin, hcall, hl3, hl10, k1, k2, k3', k4, Tlv.cellsL, Tlv.cells, cellsL_len, h1, h2, h3, h4, ho, noPart, bytesI, g1, g2, g3, g4, g4', g5, w1, w2]
                          | true =>
                            have k3' := k3 k
                            rw [g5] at k3'
                            by_cases g6 : textBad bs = 0
                            · rw [if_pos g6] at k2
                              simp [htt, hlin, hcall, hl3, hl10, k1, k2, k3', k4, Tlv.cellsL, Tlv.cells, cellsL_len, h1, h2, h3, h4, ho, noPart, bytesI, g1, g2, g3, g4, g4', g5, g6, w1, w2]
                            · rw [if_neg g6] at k2
                              unfold err at k2
                              simp [htt, hlin, hcall, hl3, hl10, k1, k2, k3', k4, Tlv.cellsL, Tlv.cells, cellsL_len, h1, h2, h3, h4, ho, noPart, bytesI, g1, g2, g3, g4, g4', g5, g6, w1, w2]
                        · have g4' : 255 < k := by omega
                          simp [htt, hlin, hcall, hl3, hl10, k1, k2, k3, k4, Tlv.cellsL, Tlv.cells, cellsL_len, h1, h2, h3, h4, ho, noPart, bytesI, g1, g2, g3, g4, g4']
                      · simp [htt, hlin, hcall, hl3, hl10, k1, k2, k3, k4, Tlv.cellsL, Tlv.cells, cellsL_len, h1, h2, h3, h4, ho, noPart, bytesI, g1, g2, g3]
                    · simp [htt, hlin, hcall, hl3, hl10, k1, k2, k3, k4, Tlv.cellsL, Tlv.cells, cellsL_len, h1, h2, h3, h4, ho, noPart, bytesI, g1, g2]
                  · simp [htt, hlin, hcall, hl3, hl10, k1, k2, k3, k4, Tlv.cellsL, Tlv.cells, cellsL_len, h1, h2, h3, h4, ho, noPart, bytesI, g1]
end Go.Proofs.Ytmehkdomnhgmeaa
