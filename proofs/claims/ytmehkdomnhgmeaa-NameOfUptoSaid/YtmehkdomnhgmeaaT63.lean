/- NameOf: the law's contract, for every element of some width. -/
import Derived.Test.YtmehkdomnhgmeaaT62
namespace Go.Proofs.Ytmehkdomnhgmeaa
open Go Go.VM
set_option linter.unusedSimpArgs false
set_option linter.unusedVariables false
set_option maxRecDepth 100000
set_option maxHeartbeats 8000000

theorem t13 (F n : Nat) (hF0 : 1100000 < F) (hF : F ≤ 140737488355328) (x : Tlv) (hw : x.width 1048576) (hby : x.bytesOk) :
    callN env F (n+60) 13 [.d (.agg x.cells)] = some ⟨[.d (.bool true)], []⟩ := by
  have hup := up F (n+59) (by omega) (by omega)
  have k1 : callN env F (n+59) 40 [.d (.agg x.cells), .d (.int .i64 20000), .d (.int .i64 50)] = some ⟨[.d (.int .i64 (x.light 50 20000))], []⟩ := t40 F hF 1048576 (by omega) 50 (n+8) x 20000 (by omega) hw (by omega) (by omega)
  have hlw := light_weight 50 x 20000
  have l5 := cells_five x
  have tk : x.cells.take 5 = x.cells := List.take_of_length_le (by omega)
  rw [callN_run (fn := Try.f13) rfl rfl rfl (by simp [Try.ntmps13])]
  generalize hC : env.ctx 13 (callN env F (n+59)) (callP env F (n+59)) = C
  have htt : C.tt = env.tt := by rw [← hC]; rfl
  have hlin : C.lin = [] := by rw [← hC]; rfl
  have hcall : C.call = callN env F (n+59) := by rw [← hC]; rfl
  have hl14 : C.live 200014 = [] := by rw [← hC]; rfl
  by_cases hlt : x.light 50 20000 < 0
  · obtain ⟨c, t, m, bn, b, kn, ks⟩ := x
    simp only [Tlv.cells] at k1 ⊢
    generalize hx : Tlv.mk c t m bn b kn ks = x at *
    simp [htt, hlin, hcall, hup, k1, hlt]
  · obtain ⟨e1, e2⟩ := hlw (by omega)
    have hwt : x.weight ≤ 20000 := by omega
    have hw2 : x.width 20000 := weight_width x hwt
    have k2 := t60 F (n+37) 20000 (by omega) (by omega) (by omega) x hw2 hby
    obtain ⟨ys, k3⟩ := t41 F hF 20000 (by omega) (n+8) x e2 hw2 hwt
    have k4 := t42 F (n+57) 20000 (by omega) (by omega) (by omega) x hw2 hby
    rw [of_same x hby, show n + 37 + 22 = n + 59 by omega] at k2
    rw [show n + 8 + 51 = n + 59 by omega] at k3
    rw [show n + 57 + 2 = n + 59 by omega] at k4
    have hback := of_back x hby
    have hcs := ofRes_cases x
    generalize hr : ofRes readPart x = r at *
    by_cases ho : odd12 x = 0
    · have hfi : x.fine = true := by
        cases h : x.fine with
        | true => rfl
        | false => simp [odd12, h] at ho
      rw [ho] at k3
      rcases hcs with h0 | ⟨h7, h7'⟩ | ⟨h2, h2'⟩
      · obtain ⟨hm, hs⟩ := hback h0
        have hs' := hs hfi
        have hm' := hm
        simp only [may, Bool.and_eq_true, decide_eq_true_eq, List.all_eq_true] at hm'
        have hl : ∀ p ∈ r.2, p.2.length ≤ 9223372036854775807 := fun p hp => by
          have := hm'.2 p hp
          simp only [partOk, Bool.and_eq_true, decide_eq_true_eq] at this
          have h2 := this.2
          unfold textBad at h2
          split at h2
          · cases h2
          · omega
        have k5 := t35 F (n+54) r.2.isEmpty r.2 (by omega) hl (by omega)
        rw [if_pos hm, show n + 54 + 5 = n + 59 by omega] at k5
        have k6 := t34 F (n+58) r.2.isEmpty r.2.isEmpty r.2 r.2 (by omega) (by omega)
        have k7 := t37 F hF 4 (n+55) (nameT r.2) x (depth_name r.2) (fits_name (by omega) r.2 (by omega))
        rw [hs', cells_name, show n + 55 + 4 = n + 59 by omega] at k7
        rw [show n + 58 + 1 = n + 59 by omega] at k6
        rw [if_pos h0] at k2
        rw [h0] at k4
        obtain ⟨c, t, m, bn, b, kn, ks⟩ := x
        simp only [Tlv.cells] at k1 k2 k3 k4 k7 ⊢
        generalize hx : Tlv.mk c t m bn b kn ks = x at *
        unfold nameD nodeD at k5 k7
        simp at k6
        simp [htt, hlin, hcall, hl14, hup, k1, hlt, k2, k3, k4, k5, k6, k7]
      · rw [if_neg (by omega), h7] at k2
        rw [h7, h7'] at k4
        unfold err at k2
        obtain ⟨c, t, m, bn, b, kn, ks⟩ := x
        simp only [Tlv.cells] at k1 k2 k3 k4 ⊢
        generalize hx : Tlv.mk c t m bn b kn ks = x at *
        simp [htt, hlin, hcall, hl14, hup, k1, hlt, k2, k3, k4, rows]
      · rw [if_neg (by omega), h2] at k2
        rw [h2, h2'] at k4
        unfold err at k2
        obtain ⟨c, t, m, bn, b, kn, ks⟩ := x
        simp only [Tlv.cells] at k1 k2 k3 k4 ⊢
        generalize hx : Tlv.mk c t m bn b kn ks = x at *
        simp [htt, hlin, hcall, hl14, hup, k1, hlt, k2, k3, k4, rows]
    · by_cases h0 : r.1 = 0
      · rw [if_pos h0] at k2
        obtain ⟨c, t, m, bn, b, kn, ks⟩ := x
        simp only [Tlv.cells] at k1 k2 k3 ⊢
        generalize hx : Tlv.mk c t m bn b kn ks = x at *
        simp [htt, hlin, hcall, hl14, hup, k1, hlt, k2, k3, ho]
      · rw [if_neg h0] at k2
        unfold err at k2
        obtain ⟨c, t, m, bn, b, kn, ks⟩ := x
        simp only [Tlv.cells] at k1 k2 k3 ⊢
        generalize hx : Tlv.mk c t m bn b kn ks = x at *
        simp [htt, hlin, hcall, hl14, hup, k1, hlt, k2, k3, ho]
end Go.Proofs.Ytmehkdomnhgmeaa
