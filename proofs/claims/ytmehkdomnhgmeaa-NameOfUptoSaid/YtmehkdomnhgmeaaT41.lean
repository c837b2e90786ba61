/- What the reference's Write hands back of light elements. -/
import Derived.Test.YtmehkdomnhgmeaaT58
namespace Go.Proofs.Ytmehkdomnhgmeaa
open Go Go.VM
set_option linter.unusedSimpArgs false
set_option linter.unusedVariables false
set_option maxRecDepth 100000
set_option maxHeartbeats 4000000

def odd12 (x : Tlv) : Int := if x.fine = false then 1 else if 16 < x.depth then 9 else 0

theorem t41 (F : Nat) (hF : F ≤ 140737488355328) (B : Nat) (hB : B < F) (n : Nat) (x : Tlv) (hd : x.depth ≤ 50) (hw : x.width B) (hwt : x.weight ≤ 20000) :
    ∃ ys, callN env F (n + 51) 41 [.d (.agg x.cells)] = some ⟨[.d ys, .d (.int .i64 (odd12 x))], []⟩ := by
  have k1 := t56 F hF B hB 50 n x hd hw
  have k2 := t57 F hF B hB 50 n x hd (by omega) hw
  have k3 : x.fine = true → _ := fun hfi => t58 F hF B hB 50 n x hd hw hfi hwt
  have hel := enc_le x
  have l5 := cells_five x
  have tk : x.cells.take 5 = x.cells := List.take_of_length_le (by omega)
  obtain ⟨c, t, m, bn, b, kn, ks⟩ := x
  simp only [Tlv.cells] at k1 k2 k3 ⊢
  unfold odd12
  generalize hx : Tlv.mk c t m bn b kn ks = x at *
  rw [callN_run (fn := Try.f41) rfl rfl rfl (by simp [Try.ntmps41])]
  generalize hC : env.ctx 41 (callN env F (n+50)) (callP env F (n+50)) = C
  have htt : C.tt = env.tt := by rw [← hC]; rfl
  have hlin : C.lin = [] := by rw [← hC]; rfl
  have hcall : C.call = callN env F (n+50) := by rw [← hC]; rfl
  cases hfi : x.fine with
  | false =>
    rw [hfi] at k1
    refine ⟨.nums .u8 true [], ?_⟩
    simp [htt, hlin, hcall, k1]
  | true =>
    have k3' := k3 hfi
    rw [hfi] at k1
    by_cases h16 : 16 < x.depth
    · have e1 : (16 : Int) < x.depth := by omega
      refine ⟨.nums .u8 true [], ?_⟩
      simp [htt, hlin, hcall, k1, k2, h16, e1]
    · have e1 : ¬ ((16 : Int) < x.depth) := by omega
      have e2 : ¬ ((1048576 : Int) < x.enc.length) := by omega
      refine ⟨.nums .u8 false x.enc, ?_⟩
      simp [htt, hlin, hcall, k1, k2, k3', h16, e1, e2]
end Go.Proofs.Ytmehkdomnhgmeaa
