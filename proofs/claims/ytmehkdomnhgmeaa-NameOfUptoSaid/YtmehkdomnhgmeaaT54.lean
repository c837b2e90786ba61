/- What name.is, and name.part of a part's element, hand back. -/
import Derived.Test.YtmehkdomnhgmeaaT37
namespace Go.Proofs.Ytmehkdomnhgmeaa
open Go Go.VM
set_option linter.unusedSimpArgs false
set_option linter.unusedVariables false
set_option maxRecDepth 100000
set_option maxHeartbeats 4000000

def isB (c t : Int) (m : Bool) (len : Nat) (tag many : Int) : Bool := decide (c = 0 ∧ t = tag ∧ ((many < 0 ∧ m = false) ∨ (0 ≤ many ∧ m = true ∧ (len : Int) = many)))

theorem t54 (fuel n : Nat) (c t : Int) (m : Bool) (B : D) (kn : Bool) (ks : List (List D)) (tag many : Int) :
    callN env fuel (n+1) 54 [.d (.agg [.int .i64 c, .int .i64 t, .bool m, B, .sl 5 kn ks]), .d (.int .i64 tag), .d (.int .i64 many)] = some ⟨[.d (.bool (isB c t m ks.length tag many))], []⟩ := by
  rw [callN_run (fn := Try.f54) rfl rfl rfl (by simp [Try.ntmps54])]
  generalize hC : env.ctx 54 (callN env fuel n) (callP env fuel n) = C
  have htt : C.tt = env.tt := by rw [← hC]; rfl
  have hlin : C.lin = [] := by rw [← hC]; rfl
  unfold isB
  by_cases h1 : c = 0
  · by_cases h2 : t = tag
    · by_cases h3 : many < 0
      · have h3' : ¬ (0 ≤ many) := by omega
        cases m with
        | true => simp [htt, hlin, h1, h2, h3, h3']
        | false => simp [htt, hlin, h1, h2, h3, h3']
      · have h3' : 0 ≤ many := by omega
        cases m with
        | true =>
          by_cases h4 : (ks.length : Int) = many
          · simp [htt, hlin, h1, h2, h3, h3', h4]
          · simp [htt, hlin, h1, h2, h3, h3', h4]
        | false => simp [htt, hlin, h1, h2, h3, h3']
    · simp [htt, hlin, h1, h2]
  · simp [htt, hlin, h1]

theorem oid_3 : callN env 200 20 27 [.d (.nums .u8 false [85, 4, 3])] = some ⟨[.d (.nums .u64 false [2, 5, 4, 3]), .d .nilifc], []⟩ := by kernel_rfl
theorem oid_6 : callN env 200 20 27 [.d (.nums .u8 false [85, 4, 6])] = some ⟨[.d (.nums .u64 false [2, 5, 4, 6]), .d .nilifc], []⟩ := by kernel_rfl
theorem oid_10 : callN env 200 20 27 [.d (.nums .u8 false [85, 4, 10])] = some ⟨[.d (.nums .u64 false [2, 5, 4, 10]), .d .nilifc], []⟩ := by kernel_rfl
theorem oid_11 : callN env 200 20 27 [.d (.nums .u8 false [85, 4, 11])] = some ⟨[.d (.nums .u64 false [2, 5, 4, 11]), .d .nilifc], []⟩ := by kernel_rfl
theorem oid0 (k : Int) (hk : isKind k = true) : callN env 200 20 27 [.d (.nums .u8 false [85, 4, k])] = some ⟨[.d (.nums .u64 false [2, 5, 4, k]), .d .nilifc], []⟩ := by
  have : k = 3 ∨ k = 6 ∨ k = 10 ∨ k = 11 := by simpa [isKind] using hk
  rcases this with rfl | rfl | rfl | rfl
  · exact oid_3
  · exact oid_6
  · exact oid_10
  · exact oid_11
theorem oid1 (fuel n : Nat) (hf : 200 ≤ fuel) (hn : 20 ≤ n) (k : Int) (hk : isKind k = true) : callN env fuel n 27 [.d (.nums .u8 false [85, 4, k])] = some ⟨[.d (.nums .u64 false [2, 5, 4, k]), .d .nilifc], []⟩ :=
  callN_mono hf hn (oid0 k hk)

@[simp] theorem tt45 : env.tt 45 = some { k := (.slice 79), size := 1, bytes := 24, zero := [(.nums .u64 true [])], cmp := false, eq := true } := rfl
@[simp] theorem tt79 : env.tt 79 = some { k := (.int .u64), size := 1, bytes := 8, zero := [(.int .u64 (0))], cmp := true, eq := true } := rfl

theorem t55 (fuel n : Nat) (hf : 200 ≤ fuel) (p : Int × List Int) (hp : partOk p = true) (hl : p.2.length ≤ 9223372036854775807) :
    callN env fuel (n+21) 55 [.d (.agg (partD p))] = some ⟨[.d (.agg [.int .i64 p.1, .str p.2]), .d (.bool true)], []⟩ := by
  obtain ⟨p1, p2⟩ := p
  simp only [partOk, Bool.and_eq_true, decide_eq_true_eq] at hp
  obtain ⟨hk, ht⟩ := hp
  obtain ⟨b0, b1⟩ := kind_byte hk
  rw [callN_run (fn := Try.f55) rfl rfl rfl (by simp [Try.ntmps55])]
  generalize hC : env.ctx 55 (callN env fuel (n+20)) (callP env fuel (n+20)) = C
  have htt : C.tt = env.tt := by rw [← hC]; rfl
  have hlin : C.lin = [] := by rw [← hC]; rfl
  have hcall : C.call = callN env fuel (n+20) := by rw [← hC]; rfl
  have hl3 : C.live 200003 = [8, 11, 13, 16] := by rw [← hC]; rfl
  have hl10 : C.live 200010 = [] := by rw [← hC]; rfl
  have k1 := oid1 fuel (n+20) hf (by omega) p1 hk
  have k2 := t28 fuel (n+16) false p2 hl (by omega)
  rw [if_pos ht] at k2
  have k3 := t51 fuel (n+19) p1
  rw [hk] at k3
  have e5 : ¬ (255 < p1) := by omega
  have e6 : p1 ≤ 9223372036854775807 := by omega
  have e7 : -9223372036854775808 ≤ p1 := by omega
  have k4 := fun c t m B kn ks tag many => t54 fuel (n+19) c t m B kn ks tag many
  simp [htt, hlin, hcall, hl3, hl10, partD, nodeD, leafD, k1, k2, k3, k4, isB, b0, b1, e5, e6, e7]
end Go.Proofs.Ytmehkdomnhgmeaa
