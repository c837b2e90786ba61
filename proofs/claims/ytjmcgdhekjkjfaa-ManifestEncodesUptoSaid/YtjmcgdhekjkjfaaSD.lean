/- What der.write hands back, whole. -/
import Derived.Test.YtjmcgdhekjkjfaaSC
import Derived.Test.YtjmcgdhekjkjfaaSB
import Derived.Test.YtjmcgdhekjkjfaaVMU
set_option linter.unusedSimpArgs false
set_option linter.unusedVariables false
namespace Go.Proofs.Ytjmcgdhekjkjfaa
open Go Go.VM
variable {G : GE}
set_option maxRecDepth 100000
set_option maxHeartbeats 4000000

theorem sizeB_be (N : Nat) (h : N ≤ 1048576) (h1 : 128 ≤ N) : ∃ q : Nat, 1 ≤ q ∧ q ≤ 3 ∧ headN N = q + 2 ∧ sizeB N = ((128 + q : Nat) : Int) :: beB N q := by
  have hp : ∀ k : Nat, (N : Int).fdiv (2 ^ k) = (N : Int) / 2 ^ k := fun k => Int.fdiv_eq_ediv_of_nonneg _ (Int.le_of_lt (Int.pow_pos (by omega)))
  by_cases h2 : N < 256
  · have a1 : headN N = 3 := by unfold headN; rw [if_neg (by omega), if_pos (by omega)]
    have a2 : sizeB N = [129, (N : Int)] := by unfold sizeB; rw [if_neg (by omega), if_pos h2]
    refine ⟨1, by omega, by omega, by rw [a1]; rfl, ?_⟩
    rw [a2]
    simp only [beB, hp]
    have e1 : (N : Int) % 256 = N := by omega
    simp [e1]
  · by_cases h3 : N < 65536
    · have a1 : headN N = 4 := by unfold headN; rw [if_neg (by omega), if_neg (by omega), if_pos (by omega)]
      have a2 : sizeB N = [130, (N : Int) / 256, (N : Int) % 256] := by unfold sizeB; rw [if_neg (by omega), if_neg h2, if_pos h3]
      refine ⟨2, by omega, by omega, by rw [a1]; rfl, ?_⟩
      rw [a2]
      simp only [beB, hp]
      have e1 : (N : Int) / 256 % 256 = (N : Int) / 256 := by omega
      simp [e1]
    · have a1 : headN N = 5 := by unfold headN; rw [if_neg (by omega), if_neg (by omega), if_neg (by omega)]
      have a2 : sizeB N = [131, (N : Int) / 65536, (N : Int) / 256 % 256, (N : Int) % 256] := by unfold sizeB; rw [if_neg (by omega), if_neg h2, if_neg h3]
      refine ⟨3, by omega, by omega, by rw [a1]; rfl, ?_⟩
      rw [a2]
      simp only [beB, hp]
      have e1 : (N : Int) / 65536 % 256 = (N : Int) / 65536 := by omega
      simp [e1]

theorem beB_len (z : Int) : ∀ q : Nat, (beB z q).length = q
  | 0 => rfl
  | q + 1 => by simp [beB, beB_len z q]
theorem fineL_mem' {x : Tlv} : ∀ {l : List Tlv}, Tlv.fineL l = true → x ∈ l → x.fine = true
  | y :: l, h, hx => by
    simp only [Tlv.fineL, Bool.and_eq_true] at h
    rcases List.mem_cons.1 hx with rfl | hx
    · exact h.1
    · exact fineL_mem' h.2 hx
theorem enc_mem {x : Tlv} : ∀ {l : List Tlv}, x ∈ l → x.enc.length ≤ (Tlv.encL l).length
  | y :: l, hx => by
    simp only [Tlv.encL, List.length_append]
    rcases List.mem_cons.1 hx with rfl | hx
    · omega
    · have := enc_mem hx; omega

theorem t_write (F : Nat) (hF : F ≤ 140737488355328) (B : Nat) (hB : B < F) (hF2 : 10 < F) : ∀ (d n : Nat) (x : Tlv) (o : List Int) (nl : Bool), d ≤ 1000000 → x.depth ≤ d → x.width B → x.fine = true → x.enc.length ≤ 1048576 → o.length + x.enc.length ≤ 2097152 →
    callP (envG G) F (n + 3 * d) 25 [.d (.nums .u8 nl o), .d (.agg x.cells)] [] [.t 0] = some ⟨[.d (.nums .u8 false (o ++ x.enc))], [0], [], []⟩ := by
  intro d
  induction d with
  | zero => intro n x o nl _ hd; cases x; simp [Tlv.depth] at hd
  | succ d ih =>
    intro n x o nl hd0 hd hw hfi hen hol
    obtain ⟨c, t, m, bn, b, kn, ks⟩ := x
    simp only [Tlv.depth] at hd
    simp only [Tlv.width] at hw
    have hkl : ks.length ≤ B := hw.2.1
    have hbl : b.length ≤ B := hw.1
    simp only [Tlv.fine, Bool.and_eq_true, decide_eq_true_eq] at hfi
    obtain ⟨⟨c0, c3, t0, t30, _, _⟩, hfl⟩ := hfi
    simp only [Tlv.enc, headB, List.length_append, List.length_cons] at hen hol
    simp only [Tlv.enc, headB, Tlv.cells]
    rw [show n + 3 * (d + 1) = n + 3 * d + 2 + 1 by omega, callP_run (fn := Try.f25) rfl rfl rfl (by simp [Try.ntmps25])]
    generalize hC : (envG G).ctx 25 (callN (envG G) F (n + 3 * d + 2)) (callP (envG G) F (n + 3 * d + 2)) = C
    have htt : C.tt = (envG G).tt := by rw [← hC]; rfl
    have hlin : C.lin = [88, 86, 76, 72, 58, 49, 42, 0, 4, 39, 45, 53, 65, 73, 1000086, 84] := by rw [← hC]; rfl
    have hreg : C.reg = reg25 := by rw [← hC]; rfl
    have hcall : C.call = callN (envG G) F (n + 3 * d + 2) := by rw [← hC]; rfl
    have hcallP : C.callP = callP (envG G) F (n + 3 * d + 2) := by rw [← hC]; rfl
    have hl1 : C.live 6 = [0, 3, 5, 6, 28, 29, 30] := by rw [← hC]; rfl
    have hl2 : C.live 100006 = [0, 3, 4, 5, 6] := by rw [← hC]; rfl
    have hl3 : C.live 16 = [0, 3, 6, 10] := by rw [← hC]; rfl
    have hl4 : C.live 100016 = [0, 3, 4] := by rw [← hC]; rfl
    have hl5 : C.live 21 = [0, 78, 79, 80] := by rw [← hC]; rfl
    have hl6 : C.live 100021 = [0, 4] := by rw [← hC]; rfl
    have hLA := fun o p5 Bk hBk st h => loop_wA (G := G) htt hlin hreg hcall rfl o p5 Bk hBk kn ks (by omega)
      (fun x hx => by
        have := t_size (G := G) F hF B hB d (n + d + 2) x (by omega) (by have := depthL_mem hx; omega) (widthL_mem hw.2.2 hx)
        rwa [show n + d + 2 + 2 * d = n + 3 * d + 2 by omega] at this)
      (fun x hx => (size_enc x).1 (by have := enc_mem hx; omega)) ks 0 F b.length st rfl (by omega) (by omega) (by omega) (by omega) h
    have hLC := fun Bk hBk o ho st h => loop_wC (G := G) htt hlin hreg hcallP rfl Bk hBk kn ks (by omega)
      (fun x hx o ho => by
        have := ih (n + 2) x o false (by omega) (by have := depthL_mem hx; omega) (widthL_mem hw.2.2 hx) (fineL_mem' hfl hx) (by have := enc_mem hx; omega) ho
        rwa [show n + 2 + 3 * d = n + 3 * d + 2 by omega] at this)
      ks 0 F o st rfl (by omega) (by omega) ho h
    have hsz := sizeB_len (b.length + (Tlv.encL ks).length) (by omega)
    have hhd := headN_le ((b.length + (Tlv.encL ks).length : Nat) : Int)
    have g1 := or_class c t c0 c3 t0 t30
    have g2 := or_made c t c0 c3 t0 t30
    have g3 : IntKind.u8.wrap (64 * c + t) = 64 * c + t := by rw [wrap8]; omega
    have g4 : c * 64 ≤ 9223372036854775807 := by omega
    have g5 : -9223372036854775808 ≤ c * 64 := by omega
    have FB : ∀ p5, oldB 1 (some (.cells false [.d (.int .i64 c), .d (.int .i64 t), .d (.bool m), .d p5, .d (.sl 5 kn (Tlv.cellsL ks))])) = some (.cells false [.d (.int .i64 c), .d (.int .i64 t), .d (.bool m), .d p5, .d (.sl 5 kn (Tlv.cellsL ks))]) := fun _ => rfl
    cases m
    case false =>
      simp [htt, hlin, hreg, reg25, hcall, ev_loop, hl1, hl2, hl3, hl4, hl5, hl6, cellsL_len, g1, g3, g4, g5]
      rw [hLA (.nums .u8 nl o) (.int .u8 (64 * c + t)) _ (FB (.nums .u8 bn b)) _ (by simp)]
      have r1 : o.length ≤ 140737488355327 := by omega
      have r2 : o.length ≤ 140737488355326 := by omega
      have r6 : o.length + 2 + b.length ≤ 140737488355328 := by omega
      have r3 : o.length ≤ 140737488355325 := by omega
      have r4 : o.length ≤ 140737488355324 := by omega
      have r5 : o.length ≤ 140737488355323 := by omega
      by_cases hN : b.length + (Tlv.encL ks).length < 128
      · have n1 : ((b.length : Int) + ((Tlv.encL ks).length : Int)) < 128 := by omega
        have n2 : IntKind.u8.wrap ((b.length : Int) + ((Tlv.encL ks).length : Int)) = (b.length : Int) + ((Tlv.encL ks).length : Int) := by rw [wrap8]; omega
        simp [htt, hlin, hreg, reg25, hcall, ev_loop, hl1, hl2, hl3, hl4, hl5, hl6, cellsL_len, g1, g3, g4, g5, r1, r2, r3, r4, r5, r6, n1, n2]
        rw [hLC _ (FB (.nums .u8 bn b)) (o ++ (64 * c + t) :: ((b.length : Int) + ((Tlv.encL ks).length : Int)) :: b) (by simp; omega) _ (by simp)]
        have es : sizeB (b.length + (Tlv.encL ks).length) = [(b.length : Int) + ((Tlv.encL ks).length : Int)] := by unfold sizeB; rw [if_pos hN]; simp
        simp [htt, hlin, hreg, reg25, hcall, es]
      · obtain ⟨q, q1, q3, qh, qs⟩ := sizeB_be (b.length + (Tlv.encL ks).length) (by omega) (by omega)
        have n1 : ¬ (((b.length : Int) + ((Tlv.encL ks).length : Int)) < 128) := by omega
        have qh' : headN ((b.length : Int) + ((Tlv.encL ks).length : Int)) = q + 2 := by rw [← qh]; congr 1
        have hh := fun k => t_head (G := G) F (n + 3 * d + 1) k
        have n5 : IntKind.u8.wrap (128 + (q : Int)) = 128 + q := by rw [wrap8]; omega
        have n6 : (q : Int) ≤ 9223372036854775807 := by omega
        have n7 : -9223372036854775808 ≤ (q : Int) := by omega
        have n8 : 128 + (q : Int) ≤ 9223372036854775807 := by omega
        have n9 : -9223372036854775808 ≤ 128 + (q : Int) := by omega
        have n10 : (q : Int) - 1 ≤ 9223372036854775807 := by omega
        have n11 : -9223372036854775808 ≤ (q : Int) - 1 := by omega
        have hLB := fun Bk hBk o ho st h => loop_wB (G := G) (F := F) htt hlin hreg rfl Bk hBk ((b.length : Int) + ((Tlv.encL ks).length : Int)) (by omega) (by omega) q F o st q3 (by omega) ho h
        simp [htt, hlin, hreg, reg25, hcall, ev_loop, hl1, hl2, hl3, hl4, hl5, hl6, cellsL_len, g1, g3, g4, g5, r1, r2, r3, r4, r5, n1, hh, qh', n5, n6, n7, n8, n9, n10, n11]
        rw [hLB _ (FB (.nums .u8 bn b)) (o ++ [64 * c + t, 128 + (q : Int)]) (by simp; omega) _ (by simp)]
        have hbl2 := beB_len ((b.length : Int) + ((Tlv.encL ks).length : Int)) q
        have hql : (sizeB (b.length + (Tlv.encL ks).length)).length = q + 1 := by omega
        have r7 : o.length + (q + 1 + 1) + b.length ≤ 140737488355328 := by omega
        simp [htt, hlin, hreg, reg25, hcall, ev_loop, hl1, hl2, hl3, hl4, hl5, hl6, cellsL_len, hbl2, r7]
        rw [hLC _ (FB (.nums .u8 bn b)) (o ++ (64 * c + t) :: (128 + (q : Int)) :: (beB ((b.length : Int) + ((Tlv.encL ks).length : Int)) q ++ b)) (by simp [hbl2]; omega) _ (by simp)]
        have qs' : sizeB (b.length + (Tlv.encL ks).length) = (128 + (q : Int)) :: beB ((b.length : Int) + ((Tlv.encL ks).length : Int)) q := by
          rw [qs]
          have e1 : ((128 + q : Nat) : Int) = 128 + (q : Int) := by omega
          have e2 : ((b.length + (Tlv.encL ks).length : Nat) : Int) = (b.length : Int) + ((Tlv.encL ks).length : Int) := by omega
          rw [e1, e2]
        simp [htt, hlin, hreg, reg25, hcall, qs']
    case true =>
      simp [htt, hlin, hreg, reg25, hcall, ev_loop, hl1, hl2, hl3, hl4, hl5, hl6, cellsL_len, g1, g2, g3, g4, g5]
      rw [hLA (.nums .u8 nl o) (.int .u8 (64 * c + t + 32)) _ (FB (.nums .u8 bn b)) _ (by simp)]
      have r1 : o.length ≤ 140737488355327 := by omega
      have r2 : o.length ≤ 140737488355326 := by omega
      have r6 : o.length + 2 + b.length ≤ 140737488355328 := by omega
      have r3 : o.length ≤ 140737488355325 := by omega
      have r4 : o.length ≤ 140737488355324 := by omega
      have r5 : o.length ≤ 140737488355323 := by omega
      by_cases hN : b.length + (Tlv.encL ks).length < 128
      · have n1 : ((b.length : Int) + ((Tlv.encL ks).length : Int)) < 128 := by omega
        have n2 : IntKind.u8.wrap ((b.length : Int) + ((Tlv.encL ks).length : Int)) = (b.length : Int) + ((Tlv.encL ks).length : Int) := by rw [wrap8]; omega
        simp [htt, hlin, hreg, reg25, hcall, ev_loop, hl1, hl2, hl3, hl4, hl5, hl6, cellsL_len, g1, g2, g3, g4, g5, r1, r2, r3, r4, r5, r6, n1, n2]
        rw [hLC _ (FB (.nums .u8 bn b)) (o ++ (64 * c + t + 32) :: ((b.length : Int) + ((Tlv.encL ks).length : Int)) :: b) (by simp; omega) _ (by simp)]
        have es : sizeB (b.length + (Tlv.encL ks).length) = [(b.length : Int) + ((Tlv.encL ks).length : Int)] := by unfold sizeB; rw [if_pos hN]; simp
        simp [htt, hlin, hreg, reg25, hcall, es]
      · obtain ⟨q, q1, q3, qh, qs⟩ := sizeB_be (b.length + (Tlv.encL ks).length) (by omega) (by omega)
        have n1 : ¬ (((b.length : Int) + ((Tlv.encL ks).length : Int)) < 128) := by omega
        have qh' : headN ((b.length : Int) + ((Tlv.encL ks).length : Int)) = q + 2 := by rw [← qh]; congr 1
        have hh := fun k => t_head (G := G) F (n + 3 * d + 1) k
        have n5 : IntKind.u8.wrap (128 + (q : Int)) = 128 + q := by rw [wrap8]; omega
        have n6 : (q : Int) ≤ 9223372036854775807 := by omega
        have n7 : -9223372036854775808 ≤ (q : Int) := by omega
        have n8 : 128 + (q : Int) ≤ 9223372036854775807 := by omega
        have n9 : -9223372036854775808 ≤ 128 + (q : Int) := by omega
        have n10 : (q : Int) - 1 ≤ 9223372036854775807 := by omega
        have n11 : -9223372036854775808 ≤ (q : Int) - 1 := by omega
        have hLB := fun Bk hBk o ho st h => loop_wB (G := G) (F := F) htt hlin hreg rfl Bk hBk ((b.length : Int) + ((Tlv.encL ks).length : Int)) (by omega) (by omega) q F o st q3 (by omega) ho h
        simp [htt, hlin, hreg, reg25, hcall, ev_loop, hl1, hl2, hl3, hl4, hl5, hl6, cellsL_len, g1, g2, g3, g4, g5, r1, r2, r3, r4, r5, n1, hh, qh', n5, n6, n7, n8, n9, n10, n11]
        rw [hLB _ (FB (.nums .u8 bn b)) (o ++ [64 * c + t + 32, 128 + (q : Int)]) (by simp; omega) _ (by simp)]
        have hbl2 := beB_len ((b.length : Int) + ((Tlv.encL ks).length : Int)) q
        have hql : (sizeB (b.length + (Tlv.encL ks).length)).length = q + 1 := by omega
        have r7 : o.length + (q + 1 + 1) + b.length ≤ 140737488355328 := by omega
        simp [htt, hlin, hreg, reg25, hcall, ev_loop, hl1, hl2, hl3, hl4, hl5, hl6, cellsL_len, hbl2, r7]
        rw [hLC _ (FB (.nums .u8 bn b)) (o ++ (64 * c + t + 32) :: (128 + (q : Int)) :: (beB ((b.length : Int) + ((Tlv.encL ks).length : Int)) q ++ b)) (by simp [hbl2]; omega) _ (by simp)]
        have qs' : sizeB (b.length + (Tlv.encL ks).length) = (128 + (q : Int)) :: beB ((b.length : Int) + ((Tlv.encL ks).length : Int)) q := by
          rw [qs]
          have e1 : ((128 + q : Nat) : Int) = 128 + (q : Int) := by omega
          have e2 : ((b.length + (Tlv.encL ks).length : Nat) : Int) = (b.length : Int) + ((Tlv.encL ks).length : Int) := by omega
          rw [e1, e2]
        simp [htt, hlin, hreg, reg25, hcall, qs']
end Go.Proofs.Ytjmcgdhekjkjfaa

/- What der.Size and der.Write hand back. -/
set_option linter.unusedSimpArgs false
set_option linter.unusedVariables false
namespace Go.Proofs.Ytjmcgdhekjkjfaa
open Go Go.VM
variable {G : GE}
set_option maxRecDepth 100000
set_option maxHeartbeats 4000000

def err (n : Int) : D := .ifc 29 (.int .i64 n)
/-- What is amiss with an element that is to be written; 0: nothing. -/
def badW (x : Tlv) : Int := if x.fine = false then 1 else if 16 < x.depth then 9 else if 1048576 < x.enc.length then 2 else 0
def errD (n : Int) : D := if n = 0 then .nilifc else err n

theorem t_Size (F : Nat) (hF : F ≤ 140737488355328) (B : Nat) (hB : B < F) (d n : Nat) (x : Tlv) (hd0 : d ≤ 1000000) (hd : x.depth ≤ d) (hw : x.width B) :
    callN (envG G) F (n + 4 * d + 1) 24 [.d (.agg x.cells)] = some ⟨[.d (.int .i64 (if badW x = 0 then x.enc.length else 0)), .d (errD (badW x))], []⟩ := by
  have k1 := t_fine (G := G) F hF B hB d n x hd hw
  have k2 := t_deep (G := G) F hF B hB d n x 16 hd hw (by omega) (by omega)
  have k3 := t_size (G := G) F hF B hB d (n + 2 * d) x hd0 hd hw
  rw [show n + 2 * d + 2 * d = n + 4 * d by omega] at k3
  have hse := size_enc x
  unfold badW errD err
  obtain ⟨c, t, m, bn, b, kn, ks⟩ := x
  simp only [Tlv.cells] at k1 k2 k3 ⊢
  generalize hx : Tlv.mk c t m bn b kn ks = x at *
  rw [callN_run (fn := Try.f24) rfl rfl rfl (by simp [Try.ntmps24])]
  generalize hC : (envG G).ctx 24 (callN (envG G) F (n + 4 * d)) (callP (envG G) F (n + 4 * d)) = C
  have htt : C.tt = (envG G).tt := by rw [← hC]; rfl
  have hlin : C.lin = [] := by rw [← hC]; rfl
  have hreg : C.reg = reg24 := by rw [← hC]; rfl
  have hcall : C.call = callN (envG G) F (n + 4 * d) := by rw [← hC]; rfl
  cases hf : x.fine with
  | false =>
    rw [hf] at k1
    simp [htt, hlin, hreg, reg24, hcall, k1, k2, k3]
  | true =>
    rw [hf] at k1
    by_cases h16 : 16 < x.depth
    · have e1 : deepB x 16 = true := by unfold deepB; exact decide_eq_true (by omega)
      rw [e1] at k2
      simp [htt, hlin, hreg, reg24, hcall, k1, k2, k3, h16]
    · have e1 : deepB x 16 = false := by unfold deepB; exact decide_eq_false (by omega)
      rw [e1] at k2
      by_cases hl : 1048576 < x.enc.length
      · have e2 := hse.2 hl
        simp [htt, hlin, hreg, reg24, hcall, k1, k2, k3, h16, hl, e2]
      · have e2 := hse.1 (by omega)
        rw [e2] at k3
        have e3 : ¬ ((1048576 : Int) < x.enc.length) := by omega
        simp [htt, hlin, hreg, reg24, hcall, k1, k2, k3, h16, hl, e3]

theorem t_Write (F : Nat) (hF : F ≤ 140737488355328) (B : Nat) (hB : B < F) (hF2 : 10 < F) (d n : Nat) (x : Tlv) (hd0 : d ≤ 1000000) (hd : x.depth ≤ d) (hw : x.width B) :
    callN (envG G) F (n + 4 * d + 2) 15 [.d (.agg x.cells)] = some ⟨[.d (if badW x = 0 then .nums .u8 false x.enc else .nums .u8 true []), .d (errD (badW x))], [0]⟩ := by
  have k1 := t_Size (G := G) F hF B hB d n x hd0 hd hw
  have k2 : badW x = 0 → _ := fun h => t_write (G := G) F hF B hB hF2 d (n + d + 1) x [] true hd0 hd hw (by
    cases hf : x.fine with
    | true => rfl
    | false => simp [badW, hf] at h) (by
    unfold badW at h
    split at h
    · cases h
    · split at h
      · cases h
      · split at h
        · cases h
        · omega) (by
    unfold badW at h
    split at h
    · cases h
    · split at h
      · cases h
      · split at h
        · cases h
        · simp; omega)
  rw [show n + d + 1 + 3 * d = n + 4 * d + 1 by omega] at k2
  unfold errD err at *
  obtain ⟨c, t, m, bn, b, kn, ks⟩ := x
  simp only [Tlv.cells] at k1 k2 ⊢
  generalize hx : Tlv.mk c t m bn b kn ks = x at *
  rw [callN_run (fn := Try.f15) rfl rfl rfl (by simp [Try.ntmps15])]
  generalize hC : (envG G).ctx 15 (callN (envG G) F (n + 4 * d + 1)) (callP (envG G) F (n + 4 * d + 1)) = C
  have htt : C.tt = (envG G).tt := by rw [← hC]; rfl
  have hlin : C.lin = [10, 5, 15, 13, 3, 2, 1000015] := by rw [← hC]; rfl
  have hreg : C.reg = reg15 := by rw [← hC]; rfl
  have hcall : C.call = callN (envG G) F (n + 4 * d + 1) := by rw [← hC]; rfl
  have hcallP : C.callP = callP (envG G) F (n + 4 * d + 1) := by rw [← hC]; rfl
  by_cases h0 : badW x = 0
  · have k2' := k2 h0
    rw [h0] at k1
    simp [htt, hlin, hreg, reg15, hcall, hcallP, k1, k2', h0]
  · simp [h0] at k1
    simp [htt, hlin, hreg, reg15, hcall, hcallP, k1, h0]
end Go.Proofs.Ytjmcgdhekjkjfaa

/- What der.spot and der's reader.length hand back. -/
set_option linter.unusedSimpArgs false
set_option linter.unusedVariables false
namespace Go.Proofs.Ytjmcgdhekjkjfaa
open Go Go.VM
variable {G : GE}
set_option maxRecDepth 100000
set_option maxHeartbeats 4000000

/-- An error at a place. -/
def spotD (c p : Int) : D := .ifc 81 (.fp [.int .i64 p, err c])

theorem t_spot (F n : Nat) (c p : Int) : callN (envG G) F (n+1) 31 [.d (.int .i64 p), .d (err c)] = some ⟨[.d (spotD c p)], []⟩ := by
  unfold spotD err
  rw [callN_run (fn := Try.f31) rfl rfl rfl (by simp [Try.ntmps31])]
  generalize hC : (envG G).ctx 31 (callN (envG G) F (n)) (callP (envG G) F (n)) = C
  have htt : C.tt = (envG G).tt := by rw [← hC]; rfl
  have hlin : C.lin = [] := by rw [← hC]; rfl
  have hreg : C.reg = reg31 := by rw [← hC]; rfl
  have hcall : C.call = callN (envG G) F (n) := by rw [← hC]; rfl
  have hcallP : C.callP = callP (envG G) F (n) := by rw [← hC]; rfl
  simp [htt, hlin, hreg, reg31, hcall, hcallP]

theorem byteAt_get {b : List Int} {i : Nat} (h : i < b.length) : b[i]? = some (byteAt b i) := by
  simp [byteAt, h]

theorem loop_len {m : Nat} {C : Ctx} {F : Nat} (hC : (envG G).ctx 38 (callN (envG G) F (m)) (callP (envG G) F (m)) = C) {c : Code} (hc : loopAt 12 Try.f38 = some c) (b us : List Int) (fr q : Nat) (hb : ∀ c ∈ b, 0 ≤ c ∧ c < 256) (hq : q ≤ 3) (hul : us.length = q) (hu : ∀ j, j < q → us[j]? = some (byteAt b (fr + j)))
    (nl : Bool) (p1 p2 p10 p11 : D) (B : Blk) (hB : oldB 1 (some B) = some B) :
    ∀ (u j k : Nat) (st : St), j + u = q → u < k →
      st.trim 1 [1, 2, 3, 9, 10, 11, 57, 58, 59] = ⟨[(1, .d p1), (2, .d p2), (3, .ptr 0 0), (9, .d (.int .i64 (beN b fr j))), (10, .d p10), (11, .d p11), (57, .d (.nums .u8 nl us)), (58, .d (.int .i64 q)), (59, .d (.int .i64 j))], [some B], []⟩ →
      iter (ev C F c) 1 [1, 2, 3, 9, 10, 11, 57, 58, 59] [1, 2, 3, 6, 7, 8, 9, 10, 11] k st = some (.exit 1, ⟨[(1, .d p1), (2, .d p2), (3, .ptr 0 0), (9, .d (.int .i64 (beN b fr q))), (10, .d p10), (11, .d p11)], [some B], []⟩) := by
  have htt : C.tt = (envG G).tt := by rw [← hC]; rfl
  have hlin : C.lin = [] := by rw [← hC]; rfl
  have hreg : C.reg = reg38 := by rw [← hC]; rfl
  have hcall : C.call = callN (envG G) F (m) := by rw [← hC]; rfl
  have hcallP : C.callP = callP (envG G) F (m) := by rw [← hC]; rfl
  have hlv_12 : C.live 12 = [1, 2, 3, 9, 10, 11, 57, 58, 59] := by rw [← hC]; rfl
  have hlv_100012 : C.live 100012 = [1, 2, 3, 6, 7, 8, 9, 10, 11] := by rw [← hC]; rfl
  have hev : ∀ st, ev C F c st = ev C F ((loopAt 12 Try.f38).getD .skip) st := fun st => by rw [hc]; rfl
  intro u
  induction u with
  | zero =>
    intro j k st hj hk hst
    obtain ⟨k, rfl⟩ : ∃ j, k = j + 1 := ⟨k - 1, by omega⟩
    have e0 : ¬ ((j : Int) < (q : Int)) := by omega
    have hjq : j = q := by omega
    subst hjq
    rw [iter_eq, hst, hev]
    simp [loopAt, findLoop, Try.f38, htt, hlin, hreg, reg38, hcall, hcallP, hlv_12, hlv_100012, e0]
  | succ u ih =>
    intro j k st hj hk hst
    obtain ⟨k, rfl⟩ : ∃ j, k = j + 1 := ⟨k - 1, by omega⟩
    have e0 : (j : Int) < (q : Int) := by omega
    have ra := hu j (by omega)
    have h1 := beN_ok hb fr j
    have h2 := byteAt_ok hb (fr + j)
    have hp : (256 : Int) ^ j ≤ 65536 := by
      have : j = 0 ∨ j = 1 ∨ j = 2 := by omega
      rcases this with rfl | rfl | rfl <;> decide
    have ho := or_byte (v := beN b fr j) (x := byteAt b (fr + j)) h1.1 (by omega) h2.1 h2.2
    have ih' := fun st h => ih (j + 1) k st (by omega) (by omega) h
    simp only [beN] at ih'
    rw [show 256 * beN b fr j + byteAt b (fr + j) = beN b fr j * 256 + byteAt b (fr + j) by omega] at ih'
    have e1 : (j : Int) + 1 ≤ 9223372036854775807 := by omega
    have e2 : (-9223372036854775808 : Int) ≤ (j : Int) + 1 := by omega
    have e3 : beN b fr j * 256 ≤ 9223372036854775807 := by omega
    have e4 : (-9223372036854775808 : Int) ≤ beN b fr j * 256 := by omega
    have e5 : byteAt b (fr + j) ≤ 9223372036854775807 := by omega
    have e6 : (-9223372036854775808 : Int) ≤ byteAt b (fr + j) := by omega
    rw [iter_eq, hst, hev]
    generalize beN b fr j = v at *
    generalize byteAt b (fr + j) = x at *
    simp [loopAt, findLoop, Try.f38, htt, hlin, hreg, reg38, hcall, hcallP, hlv_12, hlv_100012, e0, e1, e2, e3, e4, e5, e6, ra, ho]
    simp at ih'
    exact ih' _ (by simp [hB])
end Go.Proofs.Ytjmcgdhekjkjfaa

/- What der's reader.length hands back. -/
set_option linter.unusedSimpArgs false
set_option linter.unusedVariables false
namespace Go.Proofs.Ytjmcgdhekjkjfaa
open Go Go.VM
variable {G : GE}
set_option maxRecDepth 100000
set_option maxHeartbeats 4000000

def spanV : Res (Nat × Nat) → List V
  | .ok (f, t) => [.d (.int .i64 f), .d (.int .i64 t), .d .nilifc]
  | .bad c p => [.d (.int .i64 0), .d (.int .i64 0), .d (spotD c p)]

theorem t_dlength (F n : Nat) (hF : 4 < F) (b : List Int) (nl : Bool) (hb : ∀ c ∈ b, 0 ≤ c ∧ c < 256) (hlen : b.length ≤ 1048576) (i stop : Nat) (hs : stop ≤ b.length) (hi : i ≤ 1048577) :
    callN (envG G) F (n+2) 38 [.d (.agg [.nums .u8 nl b]), .d (.int .i64 i), .d (.int .i64 stop)] = some ⟨spanV (spanB b i stop), []⟩ := by
  have ks := fun c p => t_spot (G := G) F n c p
  have g0 := byteAt_ok hb i
  have g1 := byteAt_ok hb (i + 1)
  rw [callN_run (fn := Try.f38) rfl rfl rfl (by simp [Try.ntmps38])]
  generalize hC : (envG G).ctx 38 (callN (envG G) F (n+1)) (callP (envG G) F (n+1)) = C
  have htt : C.tt = (envG G).tt := by rw [← hC]; rfl
  have hlin : C.lin = [] := by rw [← hC]; rfl
  have hreg : C.reg = reg38 := by rw [← hC]; rfl
  have hcall : C.call = callN (envG G) F (n+1) := by rw [← hC]; rfl
  have hcallP : C.callP = callP (envG G) F (n+1) := by rw [← hC]; rfl
  have hlv_12 : C.live 12 = [1, 2, 3, 9, 10, 11, 57, 58, 59] := by rw [← hC]; rfl
  have hlv_100012 : C.live 100012 = [1, 2, 3, 6, 7, 8, 9, 10, 11] := by rw [← hC]; rfl
  have hL := fun us fr q hq hul hu nl p1 p2 p10 p11 B hB u j k st => loop_len (G := G) hC rfl b us fr q hb hq hul hu nl p1 p2 p10 p11 B hB u j k st
  clear hC
  unfold spotD err at ks
  have e1 : (i : Int) + 1 ≤ 9223372036854775807 := by omega
  have e2 : (-9223372036854775808 : Int) ≤ (i : Int) + 1 := by omega
  by_cases c1 : stop ≤ i
  · have hsp : spanB b i stop = .bad 6 i := by simp [spanB, lenB, c1]
    have f1 : (stop : Int) ≤ (i : Int) := by omega
    rw [hsp]
    simp [htt, hlin, hreg, reg38, hcall, hcallP, hlv_12, hlv_100012, ks, f1, spanV, spotD, err]
  · have f1 : ¬ (stop : Int) ≤ (i : Int) := by omega
    have r0 := byteAt_get (b := b) (i := i) (by omega)
    have e7 : byteAt b i ≤ 9223372036854775807 := by omega
    have e8 : (-9223372036854775808 : Int) ≤ byteAt b i := by omega
    by_cases c2 : byteAt b i < 128
    · have f2 : ¬ (byteAt b i = 128) := by omega
      have f3 : ¬ (131 < byteAt b i) := by omega
      have f4 : ¬ (128 < byteAt b i) := by omega
      by_cases c3 : stop < i + 1 + (byteAt b i).toNat
      · have hsp : spanB b i stop = .bad 6 i := by simp [spanB, lenB, c1, c2, c3]
        have f5 : (stop : Int) - ((i : Int) + 1) < byteAt b i := by omega
        have e3 : (stop : Int) - ((i : Int) + 1) ≤ 9223372036854775807 := by omega
        have e4 : (-9223372036854775808 : Int) ≤ (stop : Int) - ((i : Int) + 1) := by omega
        rw [hsp]
        generalize byteAt b i = v at *
        simp [htt, hlin, hreg, reg38, hcall, hcallP, hlv_12, hlv_100012, ks, f1, r0, e1, e2, e3, e4, e7, e8, f2, f3, f4, f5, spanV, spotD, err]
      · have hsp : spanB b i stop = .ok (i + 1, i + 1 + (byteAt b i).toNat) := by simp [spanB, lenB, c1, c2, c3]
        have f5 : ¬ (stop : Int) - ((i : Int) + 1) < byteAt b i := by omega
        have e3 : (stop : Int) - ((i : Int) + 1) ≤ 9223372036854775807 := by omega
        have e4 : (-9223372036854775808 : Int) ≤ (stop : Int) - ((i : Int) + 1) := by omega
        have e5 : (i : Int) + 1 + byteAt b i ≤ 9223372036854775807 := by omega
        have e6 : (-9223372036854775808 : Int) ≤ (i : Int) + 1 + byteAt b i := by omega
        have e9 : ((byteAt b i).toNat : Int) = byteAt b i := by omega
        rw [hsp]
        simp only [spanV, Int.natCast_add, e9]
        generalize byteAt b i = v at *
        simp [htt, hlin, hreg, reg38, hcall, hcallP, hlv_12, hlv_100012, ks, f1, r0, e1, e2, e3, e4, e5, e6, e7, e8, f2, f3, f4, f5, spanV, spotD, err]
    · by_cases c3 : byteAt b i = 128 ∨ 131 < byteAt b i
      · have hsp : spanB b i stop = .bad 7 i := by simp [spanB, lenB, c1, c2, c3]
        rw [hsp]
        generalize byteAt b i = v at *
        by_cases f2 : v = 128
        · subst f2
          simp [htt, hlin, hreg, reg38, hcall, hcallP, hlv_12, hlv_100012, ks, f1, r0, e1, e2, e7, e8, spanV, spotD, err]
        · have f3 : 131 < v := by omega
          simp [htt, hlin, hreg, reg38, hcall, hcallP, hlv_12, hlv_100012, ks, f1, r0, e1, e2, e7, e8, f2, f3, spanV, spotD, err]
      · obtain ⟨q, hq0, hq3, hqv⟩ : ∃ q : Nat, 1 ≤ q ∧ q ≤ 3 ∧ byteAt b i = 128 + q := ⟨(byteAt b i - 128).toNat, by omega, by omega, by omega⟩
        have hq : (byteAt b i - 128).toNat = q := by omega
        have f2 : ¬ (128 + (q : Int) = 128) := by omega
        have f3 : ¬ (131 < 128 + (q : Int)) := by omega
        have f4 : 128 < 128 + (q : Int) := by omega
        have f6 : 128 + (q : Int) - 128 = q := by omega
        have e3 : (stop : Int) - ((i : Int) + 1) ≤ 9223372036854775807 := by omega
        have e4 : (-9223372036854775808 : Int) ≤ (stop : Int) - ((i : Int) + 1) := by omega
        have e5 : 128 + (q : Int) ≤ 9223372036854775807 := by omega
        have e6 : (-9223372036854775808 : Int) ≤ 128 + (q : Int) := by omega
        have e9 : (q : Int) ≤ 9223372036854775807 := by omega
        have e10 : (-9223372036854775808 : Int) ≤ (q : Int) := by omega
        by_cases c4 : stop < i + 1 + q
        · have hsp : spanB b i stop = .bad 6 i := by simp [spanB, lenB, c1, c2, c3, hq, c4]
          have f5 : (stop : Int) - ((i : Int) + 1) < q := by omega
          rw [hsp]
          rw [hqv] at r0
          simp [htt, hlin, hreg, reg38, hcall, hcallP, hlv_12, hlv_100012, ks, f1, r0, e1, e2, e3, e4, e5, e6, e9, e10, f2, f3, f4, f5, f6, spanV, spotD, err]
        · have f5 : ¬ (stop : Int) - ((i : Int) + 1) < q := by omega
          have r1 := byteAt_get (b := b) (i := i + 1) (by omega)
          have hv := beN_ok hb (i + 1) q
          have hv2 : beN b (i + 1) q < 16777216 := by
            have : q = 1 ∨ q = 2 ∨ q = 3 := by omega
            rcases this with rfl | rfl | rfl <;> exact Int.lt_of_lt_of_le hv.2 (by decide)
          have e11 : (i : Int) + 1 + q ≤ 9223372036854775807 := by omega
          have e12 : (-9223372036854775808 : Int) ≤ (i : Int) + 1 + q := by omega
          have f7 : (i : Int) + 1 ≤ (i : Int) + 1 + q := by omega
          have f8 : (i : Int) + 1 + q ≤ b.length := by omega
          have f9 : (0 : Int) ≤ (i : Int) + 1 := by omega
          have n1 : ((i : Int) + 1).toNat = i + 1 := by omega
          have n2 : ((i : Int) + 1 + q).toNat = i + 1 + q := by omega
          have hL1 := fun st h => hL ((b.take (i + 1 + q)).drop (i + 1)) (i + 1) q hq3 (by simp; omega) (fun j hj => by
            rw [List.getElem?_drop, List.getElem?_take, if_pos (by omega)]; exact byteAt_get (by omega)) nl (.int .i64 i) (.int .i64 stop) (.int .i64 ((i : Int) + 1)) (.int .i64 q) (.cells false [.d (.nums .u8 nl b)]) (by simp) q 0 F st (by omega) (by omega) h
          have hll : ((b.take (i + 1 + q)).drop (i + 1)).length = q := by simp; omega
          have spc : spanB b i stop = if byteAt b (i + 1) = 0 ∨ beN b (i + 1) q < 128 then .bad 7 i else if stop < i + 1 + q + (beN b (i + 1) q).toNat then .bad 6 i else .ok (i + 1 + q, i + 1 + q + (beN b (i + 1) q).toNat) := by
            simp only [spanB, lenB, if_neg c1, if_neg c2, if_neg c3, hq, if_neg c4]
            split
            · rename_i h; split at h
              · rename_i h2; rw [if_pos h2]; exact h.symm
              · cases h
            · rename_i h; split at h
              · cases h
              · rename_i h2; rw [if_neg h2]; injection h with h; injection h with h3 h4; subst h3; subst h4; rfl
          rw [spc]
          rw [hqv] at r0
          clear spc hqv hq c2 c3 e7 e8 g0
          simp only [beN] at hL1
          simp at hL1
          generalize beN b (i + 1) q = v at *
          generalize byteAt b (i + 1) = x at *
          generalize hus : (b.take (i + 1 + q)).drop (i + 1) = us at *
          have e13 : v ≤ 9223372036854775807 := by omega
          have e14 : (-9223372036854775808 : Int) ≤ v := by omega
          have e15 : (stop : Int) - ((i : Int) + 1 + q) ≤ 9223372036854775807 := by omega
          have e16 : (-9223372036854775808 : Int) ≤ (stop : Int) - ((i : Int) + 1 + q) := by omega
          have e17 : (i : Int) + 1 + q + v ≤ 9223372036854775807 := by omega
          have e18 : (-9223372036854775808 : Int) ≤ (i : Int) + 1 + q + v := by omega
          simp [htt, hlin, hreg, reg38, hcall, hcallP, hlv_12, hlv_100012, ks, f1, r0, r1, e1, e2, e3, e4, e5, e6, e9, e10, e11, e12, f2, f3, f4, f5, f6, f7, f8, f9, n1, n2, hus, hll, ev_loop]
          rw [hL1 _ (by simp)]
          by_cases c5 : x = 0
          · simp [htt, hlin, hreg, reg38, hcall, hcallP, hlv_12, hlv_100012, ks, r1, n1, f9, c5, spanV, spotD, err]
          · by_cases c6 : v < 128
            · simp [htt, hlin, hreg, reg38, hcall, hcallP, hlv_12, hlv_100012, ks, r1, n1, f9, c5, c6, spanV, spotD, err]
            · by_cases c7 : stop < i + 1 + q + v.toNat
              · have f10 : (stop : Int) - ((i : Int) + 1 + q) < v := by omega
                simp [htt, hlin, hreg, reg38, hcall, hcallP, hlv_12, hlv_100012, ks, r1, n1, f9, c5, c6, c7, f10, e11, e12, e15, e16, spanV, spotD, err]
              · have f10 : ¬ (stop : Int) - ((i : Int) + 1 + q) < v := by omega
                have e19 : (v.toNat : Int) = v := by omega
                simp [htt, hlin, hreg, reg38, hcall, hcallP, hlv_12, hlv_100012, ks, r1, n1, f9, c5, c6, c7, f10, e11, e12, e15, e16, e17, e18, e19, spanV, spotD, err]
end Go.Proofs.Ytjmcgdhekjkjfaa

/- slices.Clone of bytes; the loop of der's reader.element. -/
set_option linter.unusedSimpArgs false
set_option linter.unusedVariables false
namespace Go.Proofs.Ytjmcgdhekjkjfaa
open Go Go.VM
variable {G : GE}
set_option maxRecDepth 100000
set_option maxHeartbeats 4000000

theorem t_clone (F n : Nat) (xs : List Int) (h : xs.length ≤ 140737488355328) : callN (envG G) F (n+1) 39 [.d (.nums .u8 false xs)] = some ⟨[.d (.nums .u8 false xs)], [0]⟩ := by
  rw [callN_run (fn := Try.f39) rfl rfl rfl (by simp [Try.ntmps39])]
  generalize hC : (envG G).ctx 39 (callN (envG G) F (n)) (callP (envG G) F (n)) = C
  have htt : C.tt = (envG G).tt := by rw [← hC]; rfl
  have hlin : C.lin = [7, 2, 5] := by rw [← hC]; rfl
  have hreg : C.reg = reg39 := by rw [← hC]; rfl
  have hcall : C.call = callN (envG G) F (n) := by rw [← hC]; rfl
  have hcallP : C.callP = callP (envG G) F (n) := by rw [← hC]; rfl
  simp [htt, hlin, hreg, reg39, hcall, hcallP, h]

theorem and31_aux : ∀ x : Fin 256, andI .u8 (x.val : Int) 31 = (x.val : Int) % 32 := by decide +kernel
theorem and32_aux : ∀ x : Fin 256, decide (andI .u8 (x.val : Int) 32 = 0) = decide (¬ (x.val : Int) / 32 % 2 = 1) := by decide +kernel
theorem and31 {x : Int} (h : 0 ≤ x ∧ x < 256) : andI .u8 x 31 = x % 32 := by
  obtain ⟨n, rfl⟩ := Int.eq_ofNat_of_zero_le h.1
  exact and31_aux ⟨n, by omega⟩
theorem and32 {x : Int} (h : 0 ≤ x ∧ x < 256) : andI .u8 x 32 = 0 ↔ ¬ x / 32 % 2 = 1 := by
  obtain ⟨n, rfl⟩ := Int.eq_ofNat_of_zero_le h.1
  exact decide_eq_decide.1 (and32_aux ⟨n, by omega⟩)

def zeroT : Tlv := .mk 0 0 false true [] true []
def elemV : Res (Tlv × Nat) → List V
  | .ok (x, nx) => [.d (.agg x.cells), .d (.int .i64 nx), .d .nilifc]
  | .bad c p => [.d (.agg zeroT.cells), .d (.int .i64 0), .d (spotD c p)]

theorem cellsL_snoc (l : List Tlv) (x : Tlv) : Tlv.cellsL l ++ [x.cells] = Tlv.cellsL (l ++ [x]) := by simp [cellsL_map]

theorem loop_elem {m : Nat} {C : Ctx} {F : Nat} (hC : (envG G).ctx 30 (callN (envG G) F (m)) (callP (envG G) F (m)) = C) {c : Code} (hc : loopAt 14 Try.f30 = some c) (b : List Int) (nl : Bool) (d to : Nat) (hd : d ≤ 15) (hto : to ≤ 1048576) (g : Nat → Nat → Res (Tlv × Nat))
    (hg : ∀ fr, fr ≤ to → callN (envG G) F m 30 [.d (.agg [.nums .u8 nl b]), .d (.int .i64 fr), .d (.int .i64 to), .d (.int .i64 ((d : Int) + 1))] = some ⟨elemV (g fr to), []⟩)
    (hgo : ∀ fr x nx, g fr to = .ok (x, nx) → fr < nx ∧ nx ≤ to) (p0 p1 p2 p3 : D) :
    ∀ (u fr k : Nat) (acc : List Tlv) (st : St), to - fr ≤ u → u < k → fr ≤ to → acc.length + to ≤ 2097152 + fr →
      st.trim 25 [3, 4, 8, 11, 12, 13] = ⟨[(3, .d (.int .i64 d)), (4, .ptr 0 0), (8, .ptr 1 0), (11, .ptr 24 0), (12, .d (.int .i64 fr)), (13, .d (.int .i64 to))],
        [some (.cells false [.d (.nums .u8 nl b)]), some (.cells false [.d (.int .i64 0), .d (.int .i64 0), .d (.bool false), .d (.nums .u8 true []), .d (.sl 5 true [])]),
         none, none, none, none, none, none, none, none, none, none, none, none, none, none, none, none, none, none, none, none, none, none, some (.cells false [.d p0, .d p1, .d p2, .d p3, .d (.sl 5 acc.isEmpty (Tlv.cellsL acc))])], [.b 24 4, .b 24 3, .b 1 4, .b 1 3]⟩ →
      match kidsB g u fr to with
      | .ok l => iter (ev C F c) 25 [3, 4, 8, 11, 12, 13] [8, 9, 10, 11, 13] k st = some (.exit 1, ⟨[(8, .ptr 1 0), (11, .ptr 24 0), (13, .d (.int .i64 to))],
          [some (.cells false [.d (.nums .u8 nl b)]), some (.cells false [.d (.int .i64 0), .d (.int .i64 0), .d (.bool false), .d (.nums .u8 true []), .d (.sl 5 true [])]),
           none, none, none, none, none, none, none, none, none, none, none, none, none, none, none, none, none, none, none, none, none, none, some (.cells false [.d p0, .d p1, .d p2, .d p3, .d (.sl 5 (acc ++ l).isEmpty (Tlv.cellsL (acc ++ l)))])], [.b 24 4, .b 24 3, .b 1 4, .b 1 3]⟩)
      | .bad c1 p => ∃ st', iter (ev C F c) 25 [3, 4, 8, 11, 12, 13] [8, 9, 10, 11, 13] k st = some (.ret, st') ∧ finish C Try.f30.results.toList (some (.ret, st')) = some ⟨elemV (.bad c1 p), []⟩ := by
  have htt : C.tt = (envG G).tt := by rw [← hC]; rfl
  have hlin : C.lin = [104, 75, 74, 17, 13, 14, 117, 108, 91, 79, 44, 32, 24, 10, 9, 110] := by rw [← hC]; rfl
  have hreg : C.reg = reg30 := by rw [← hC]; rfl
  have hcall : C.call = callN (envG G) F (m) := by rw [← hC]; rfl
  have hcallP : C.callP = callP (envG G) F (m) := by rw [← hC]; rfl
  have hlv_14 : C.live 14 = [3, 4, 8, 11, 12, 13] := by rw [← hC]; rfl
  have hlv_100014 : C.live 100014 = [8, 9, 10, 11, 13] := by rw [← hC]; rfl
  have hlv_200007 : C.live 200007 = [] := by rw [← hC]; rfl
  have hlv_250007 : C.live 250007 = [] := by rw [← hC]; rfl
  have hev : ∀ st, ev C F c st = ev C F ((loopAt 14 Try.f30).getD .skip) st := fun st => by rw [hc]; rfl
  intro u
  induction u with
  | zero =>
    intro fr k acc st hu hk hf ha hst
    obtain ⟨k, rfl⟩ : ∃ j, k = j + 1 := ⟨k - 1, by omega⟩
    have e0 : ¬ ((fr : Int) < (to : Int)) := by omega
    simp only [kidsB]
    rw [iter_eq, hst, hev]
    simp [loopAt, findLoop, Try.f30, htt, hlin, hreg, reg30, hcall, hcallP, hlv_14, hlv_100014, hlv_200007, hlv_250007, e0]
  | succ u ih =>
    intro fr k acc st hu hk hf ha hst
    obtain ⟨k, rfl⟩ : ∃ j, k = j + 1 := ⟨k - 1, by omega⟩
    simp only [kidsB]
    by_cases h0 : fr < to
    case neg =>
      have e0 : ¬ ((fr : Int) < (to : Int)) := by omega
      rw [if_neg h0]
      rw [iter_eq, hst, hev]
      simp [loopAt, findLoop, Try.f30, htt, hlin, hreg, reg30, hcall, hcallP, hlv_14, hlv_100014, hlv_200007, hlv_250007, e0]
    case pos =>
      have e0 : ((fr : Int) < (to : Int)) := by omega
      have e1 : (d : Int) + 1 ≤ 9223372036854775807 := by omega
      have e2 : (-9223372036854775808 : Int) ≤ (d : Int) + 1 := by omega
      rw [if_pos h0]
      have hc1 := hg fr hf
      cases hgr : g fr to with
      | bad c1 p =>
        rw [hgr] at hc1
        simp only [elemV] at hc1 ⊢
        simp only [spotD, err, zeroT, Tlv.cells, Tlv.cellsL] at hc1 ⊢
        rw [iter_eq, hst, hev]
        simp [loopAt, findLoop, Try.f30, htt, hlin, hreg, reg30, hcall, hcallP, hlv_14, hlv_100014, hlv_200007, hlv_250007, e0, e1, e2, hc1]
      | ok r =>
        obtain ⟨x, nx⟩ := r
        rw [hgr] at hc1
        simp only [elemV] at hc1
        obtain ⟨hlo, hhi⟩ := hgo fr x nx hgr
        have ih' := fun st h => ih nx k (acc ++ [x]) st (by omega) (by omega) hhi (by simp; omega) h
        have hsn := cellsL_snoc acc x
        obtain ⟨xc, xt, xm, xbn, xb, xkn, xks⟩ := x
        simp only [Tlv.cells] at hc1 hsn
        have hal : (acc.length + 1) * 72 ≤ 140737488355328 := by omega
        have hal2 : acc.length ≤ 140737488355327 := by omega
        have hl := cellsL_len acc
        cases hk2 : kidsB g u nx to with
        | ok l =>
          rw [hk2] at ih'
          simp only [hgr, hk2]
          rw [iter_eq, hst, hev]
          cases xkn <;> cases xbn <;>
          (simp [loopAt, findLoop, Try.f30, htt, hlin, hreg, reg30, hcall, hcallP, hlv_14, hlv_100014, hlv_200007, hlv_250007, e0, e1, e2, hc1, hl, hsn, hal, hal2]
           simp at ih'
           exact ih' _ (by simp))
        | bad c1 p =>
          rw [hk2] at ih'
          simp only [hgr, hk2]
          rw [iter_eq, hst, hev]
          cases xkn <;> cases xbn <;>
          (simp [loopAt, findLoop, Try.f30, htt, hlin, hreg, reg30, hcall, hcallP, hlv_14, hlv_100014, hlv_200007, hlv_250007, e0, e1, e2, hc1, hl, hsn, hal, hal2]
           simp [Try.f30, htt, hlin, hreg, reg30, hcall, hcallP, hlv_14, hlv_100014, hlv_200007, hlv_250007] at ih'
           exact ih' _ (by simp))
end Go.Proofs.Ytjmcgdhekjkjfaa

/- What prim.Number and the reference's Number hand back. -/
set_option linter.unusedSimpArgs false
set_option linter.unusedVariables false
namespace Go.Proofs.Ytjmcgdhekjkjfaa
open Go Go.VM
variable {G : GE}
set_option maxRecDepth 100000
set_option maxHeartbeats 4000000

/-- The number of a body, or what is amiss. -/
def numB : List Int → Sum Int (List Int)
  | [] => .inl 7
  | x :: t => if 128 ≤ x then .inl 7 else if x = 0 then (match t with
      | [] => .inr []
      | y :: u => if y < 128 then .inl 7 else if 64 < (y :: u).length then .inl 2 else .inr (y :: u))
    else if 64 < (x :: t).length then .inl 2 else .inr (x :: t)

theorem t_Number (F n : Nat) (nl : Bool) (b : List Int) (hnl : nl = true → b = []) (hl : b.length ≤ 140737488355328) :
    callN (envG G) F (n+2) 40 [.d (.nums .u8 nl b)] = some (match numB b with
    | .inl e => ⟨[.d (.nums .u8 true []), .d (err e)], []⟩
    | .inr ys => ⟨[.d (.nums .u8 false ys), .d .nilifc], [0]⟩) := by
  have kc := fun xs h => t_clone (G := G) F n xs h
  rw [callN_run (fn := Try.f40) rfl rfl rfl (by simp [Try.ntmps40])]
  generalize hC : (envG G).ctx 40 (callN (envG G) F (n+1)) (callP (envG G) F (n+1)) = C
  have htt : C.tt = (envG G).tt := by rw [← hC]; rfl
  have hlin : C.lin = [] := by rw [← hC]; rfl
  have hreg : C.reg = reg40 := by rw [← hC]; rfl
  have hcall : C.call = callN (envG G) F (n+1) := by rw [← hC]; rfl
  have hcallP : C.callP = callP (envG G) F (n+1) := by rw [← hC]; rfl
  unfold err
  cases b with
  | nil => simp [htt, hlin, hreg, reg40, hcall, hcallP, numB]
  | cons x t =>
    have hnf : nl = false := by cases nl with | false => rfl | true => cases hnl rfl
    subst hnf
    simp only [List.length_cons] at hl
    have e0 : ¬ ((t.length : Int) + 1 = 0) := by omega
    have e9 : (0 : Int) < (t.length : Int) + 1 := by omega
    by_cases h1 : 128 ≤ x
    · simp [htt, hlin, hreg, reg40, hcall, hcallP, numB, h1, e0, e9]
    · by_cases h2 : x = 0
      · subst h2
        cases t with
        | nil => simp [htt, hlin, hreg, reg40, hcall, hcallP, numB, kc]
        | cons y u =>
          simp only [List.length_cons] at hl e0 e9
          have e1 : (1 : Int) < (u.length : Int) + 1 + 1 := by omega
          have e2 : ¬ ((u.length : Int) + 1 + 1 = 0) := by omega
          have e7 : (1 : Int) ≤ (u.length : Int) + 1 + 1 := by omega
          by_cases h3 : y < 128
          · simp [htt, hlin, hreg, reg40, hcall, hcallP, numB, e1, e2, e7, h3]
          · by_cases h4 : 64 < u.length + 1
            · have e5 : (64 : Int) < (u.length : Int) + 1 := by omega
              simp [htt, hlin, hreg, reg40, hcall, hcallP, numB, e1, e2, e7, h3, h4, e5, kc]
            · have e5 : ¬ (64 : Int) < (u.length : Int) + 1 := by omega
              have e6 : u.length + 1 ≤ 140737488355328 := by omega
              simp [htt, hlin, hreg, reg40, hcall, hcallP, numB, e1, e2, e7, h3, h4, e5, e6, kc]
      · by_cases h4 : 64 < t.length + 1
        · have e5 : (64 : Int) < (t.length : Int) + 1 := by omega
          by_cases e8 : (1 : Int) < (t.length : Int) + 1 <;> simp [htt, hlin, hreg, reg40, hcall, hcallP, numB, h1, h2, e0, h4, e5, e8, kc]
        · have e5 : ¬ (64 : Int) < (t.length : Int) + 1 := by omega
          have e6 : t.length + 1 ≤ 140737488355328 := by omega
          by_cases e8 : (1 : Int) < (t.length : Int) + 1 <;> simp [htt, hlin, hreg, reg40, hcall, hcallP, numB, h1, h2, e0, h4, e5, e6, e8, kc]
end Go.Proofs.Ytjmcgdhekjkjfaa
