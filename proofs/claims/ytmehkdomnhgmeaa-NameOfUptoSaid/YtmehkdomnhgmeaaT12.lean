/- The law NameElements, reckoned by the machine over values, hands back true: for all names of some size. -/
import Derived.Test.YtmehkdomnhgmeaaT39
import Derived.Test.YtmehkdomnhgmeaaT10
namespace Go.Proofs.Ytmehkdomnhgmeaa
open Go Go.VM
set_option linter.unusedSimpArgs false
set_option linter.unusedVariables false
set_option maxRecDepth 100000
set_option maxHeartbeats 4000000

def leafT (tag : Int) (b : List Int) : Tlv := .mk 0 tag false false b true []
def nodeT (tag : Int) (nl : Bool) (kids : List Tlv) : Tlv := .mk 0 tag true true [] nl kids
def partT (p : Int × List Int) : Tlv := nodeT 17 false [nodeT 16 false [leafT 6 [85, 4, p.1], leafT 12 p.2]]
def nameT (a : List (Int × List Int)) : Tlv := nodeT 16 a.isEmpty (a.map partT)
theorem cells_part (p : Int × List Int) : (partT p).cells = partD p := rfl
theorem cells_name (a : List (Int × List Int)) : (nameT a).cells = nameD a := by
  unfold nameT nameD nodeT nodeD
  simp only [Tlv.cells, cellsL_map, List.map_map]
  have : Tlv.cells ∘ partT = partD := by funext p; rfl
  rw [this]
theorem same_part (p : Int × List Int) : (partT p).same (partT p) = true := by
  simp [partT, nodeT, leafT, Tlv.same, Tlv.sameL]
theorem same_parts : ∀ a : List (Int × List Int), Tlv.sameL (a.map partT) (a.map partT) = true
  | [] => rfl
  | p :: a => by simp [Tlv.sameL, same_part, same_parts a]
theorem same_name (a : List (Int × List Int)) : (nameT a).same (nameT a) = true := by
  simp [nameT, nodeT, Tlv.same, same_parts]
theorem depth_parts : ∀ a : List (Int × List Int), Tlv.depthL (a.map partT) ≤ 3
  | [] => by simp [Tlv.depthL]
  | p :: a => by
    have := depth_parts a
    have h2 : (partT p).depth = 3 := by simp [partT, nodeT, leafT, Tlv.depth, Tlv.depthL]
    simp only [List.map_cons, Tlv.depthL, h2]
    omega
theorem depth_name (a : List (Int × List Int)) : (nameT a).depth ≤ 4 := by
  have := depth_parts a
  simp only [nameT, nodeT, Tlv.depth]; omega
theorem fits_parts {F : Nat} (h : 3 < F) : ∀ a : List (Int × List Int), Tlv.fitsL F (a.map partT)
  | [] => trivial
  | p :: a => by
    refine ⟨?_, fits_parts h a⟩
    simp [partT, nodeT, leafT, Tlv.fits, Tlv.fitsL]
    omega
theorem fits_name {F : Nat} (h : 3 < F) (a : List (Int × List Int)) (ha : a.length < F) : (nameT a).fits F := by
  simp only [nameT, nodeT, Tlv.fits, List.length_map]
  exact ⟨ha, fits_parts h a⟩

theorem same_zero : callN env 200 20 37 [.d (.agg [.int .i64 0, .int .i64 0, .bool false, .nums .u8 true [], .sl 5 true []]), .d (.agg [.int .i64 0, .int .i64 0, .bool false, .nums .u8 true [], .sl 5 true []])] = some ⟨[.d (.bool true)], []⟩ := by kernel_rfl

theorem t12 (fuel n : Nat) (na : Bool) (a : List (Int × List Int)) (ha : a.length ≤ 140737488355328) (hl : ∀ p ∈ a, p.2.length ≤ 9223372036854775807) (hf : 2000 < fuel) (hf2 : fuel ≤ 140737488355328) :
    callN env fuel (n+30) 12 [.d (.sl 2 na (rows a))] = some ⟨[.d (.bool true)], []⟩ := by
  rw [callN_run (fn := Try.f12) rfl rfl rfl (by simp [Try.ntmps12])]
  generalize hC : env.ctx 12 (callN env fuel (n+29)) (callP env fuel (n+29)) = C
  have htt : C.tt = env.tt := by rw [← hC]; rfl
  have hlin : C.lin = [] := by rw [← hC]; rfl
  have hcall : C.call = callN env fuel (n+29) := by rw [← hC]; rfl
  have hl8 : C.live 200008 = [] := by rw [← hC]; rfl
  have hup := up fuel (n+29) (by omega) (by omega)
  by_cases hbig : 1000 < a.length
  · have e0 : (1000 : Int) < a.length := by omega
    simp [htt, hlin, hcall, hup, rows_len, e0]
  · have e0 : ¬ ((1000 : Int) < a.length) := by omega
    have k1 := t35 fuel (n+24) na a (by omega) hl (by omega)
    have k2 := t36 fuel (n+27) na a (by omega) hl (by omega)
    cases hm : may a with
    | false =>
      rw [hm] at k1 k2
      have kz : callN env fuel (n+29) 37 _ = _ := callN_mono (by omega) (by omega) same_zero
      simp [err] at k1
      simp [htt, hlin, hcall, hup, rows_len, e0, k1, k2, kz]
    | true =>
      rw [hm] at k1 k2
      have hm' := hm
      simp only [may, Bool.and_eq_true, decide_eq_true_eq, List.all_eq_true] at hm'
      obtain ⟨h8, hall⟩ := hm'
      have k3 := t38 fuel (n+28) na a (by omega) (fun p hp => by have := hall p hp; simp [partOk] at this; exact this.1) (by omega)
      have k4 := t37 fuel hf2 4 (n+25) (nameT a) (nameT a) (depth_name a) (fits_name (by omega) a (by omega))
      rw [cells_name, same_name] at k4
      have k5 := t39 fuel (n+7) a h8 hl hall (by omega)
      have k6 := t34 fuel (n+28) a.isEmpty na a a (by omega) (by omega)
      simp at k1 k6
      unfold nameD nodeD at k1 k3 k4 k5
      simp [htt, hlin, hcall, hl8, hup, rows_len, e0, k1, k2, k3, k4, k5, k6]
end Go.Proofs.Ytmehkdomnhgmeaa
