/- bits.Add64, told to the machine over values. -/
import Derived.Test.YtjmcgdhekjkjfaaDoorSC
import Derived.Test.YtjmcgdhekjkjfaaDoorSH
import Derived.Test.YtjmcgdhekjkjfaaDoorVMS
set_option linter.unusedSimpArgs false
set_option linter.unusedVariables false
namespace Go.Proofs.YtjmcgdhekjkjfaaDoor
open Go Go.VM Go.RowKit
def addX : List V → Option Ret
  | [.d (.int .u64 x), .d (.int .u64 y), .d (.int .u64 c)] => match decide (0 ≤ c), decide (c ≤ 1) with
    | true, true => some ⟨[.d (.int .u64 ((x + y + c) % 18446744073709551616)), .d (.int .u64 ((x + y + c) / 18446744073709551616))], []⟩
    | _, _ => none
  | _ => none
theorem add_sound {glob : Nat → Option (List D)} (args : List V) (r : Ret) (h : addX args = some r) : Sound Tryd.prog glob 145 args r := by
  unfold addX at h
  split at h
  rotate_left
  · cases h
  rename_i x y c
  split at h
  rotate_left
  · cases h
  rename_i h0 h1
  have h0 := of_decide_eq_true h0
  have h1 := of_decide_eq_true h1
  cases h
  refine .inr fun cargs w own G gl hp bl => ?_
  obtain ⟨v0, v1, v2, rfl⟩ := three (by simpa using G.size)
  have g0 := inv_int (G.rep 0 _ rfl)
  have g1 := inv_int (G.rep 1 _ rfl)
  have g2 := inv_int (G.rep 2 _ rfl)
  simp at g0 g1 g2
  obtain ⟨rfl, g0⟩ := g0
  obtain ⟨rfl, g1⟩ := g1
  obtain ⟨rfl, g2⟩ := g2
  have := u64_ok g0
  have := u64_ok g1
  refine ⟨.tuple #[.int .u64 ((x + y + c) % 18446744073709551616), .int .u64 ((x + y + c) / 18446744073709551616)], ?_, Ext.refl w own, hp, #[.int .u64 ((x + y + c) % 18446744073709551616), .int .u64 ((x + y + c) / 18446744073709551616)], ⟨rfl, fun j z hz => ?_⟩, rfl, fun j hj => by simp at hj⟩
  · rw [run_callFunc_extern Tryd.func145 (by kernel_rfl) (by kernel_rfl) (by kernel_rfl) (e := add64Entry) (by kernel_rfl), run_add64 x y c (by omega) (by omega) h0 h1]
    rfl
  · rcases j with _ | _ | j
    · simp at hz; subst hz; exact .d _ _ (.int _ _ (ok_u64 (by omega) (by omega)))
    · simp at hz; subst hz; exact .d _ _ (.int _ _ (ok_u64 (by omega) (by omega)))
    · simp at hz
end Go.Proofs.YtjmcgdhekjkjfaaDoor
set_option linter.unusedSimpArgs false
set_option linter.unusedVariables false
namespace Go.Proofs.YtjmcgdhekjkjfaaDoor
open Go Go.VM
set_option maxRecDepth 100000
set_option maxHeartbeats 4000000
def u64s (l : List Int) : List D := l.map (.int .u64)
def primeC : List D := u64s [4294967295, 18446744069414584320, 18446744073709551614, 18446744073709551615, 18446744073709551615, 18446744073709551615, 4294967297, 18446744065119617025, 8589934592, 18446744065119617024, 8589934592, 1, 0]
def curveBC : List D := u64s [581395848458481100, 17809957346689692396, 8643006485390950958, 16372638458395724514, 13126622871277412500, 14774077593024970745]
def oneC : List D := u64s [18446744069414584321, 4294967295, 1, 0, 0, 0]
def baseC : List D := u64s [4203087948775033527, 6125724927633205612, 6482722621138151992, 7934563412932533144, 10282218360005504372, 12288012358878168375, 8809917716911230559, 747793036959711645, 16850834916486723776, 17938995913990739068, 6745997240412855337, 3897828414440483951] ++ [.bool false]
def dataE (g : Nat) : Option (List D) := match Nat.beq g 0 with
  | true => some groupC
  | false => match Nat.beq g 7 with
    | true => some primeC
    | false => match Nat.beq g 4 with
      | true => some primeC
      | false => match Nat.beq g 6 with
        | true => some curveBC
        | false => match Nat.beq g 3 with
          | true => some oneC
          | false => match Nat.beq g 2 with
            | true => some baseC
            | false => none
def extE (f : FuncId) (args : List V) : Option Ret := match Nat.beq f 145 with
  | true => addX args
  | false => match Nat.beq f 128 with
    | true => subX args
    | false => none
noncomputable def gEn : GE := { glob := dataE, ext := extE }
def gxL : List Int := [4203087948775033527, 6125724927633205612, 6482722621138151992, 7934563412932533144, 10282218360005504372, 12288012358878168375]
def gyL : List Int := [8809917716911230559, 747793036959711645, 16850834916486723776, 17938995913990739068, 6745997240412855337, 3897828414440483951]
def gxxL : List Int := [16294626064404623385, 10585817920061350536, 18435557229683883882, 14066213651302547681, 7433228009852402719, 318340665191803977]
def gxxxL : List Int := [15484624098767883078, 4725004713607797003, 14790340010325447495, 17177273893141795440, 17681050054996123159, 3029276638567288499]
def gtxL : List Int := [12609263842030133286, 18377174787194584132, 1001423789704904361, 5356946165088047817, 12399911006306961501, 18417293002924953510]
def gyyL : List Int := [5939436306316482062, 639503669696589412, 14010727913885342711, 13558044759818846393, 16273868750091453139, 15970881714101626609]
def gbL : List Int := [3064076045283764975, 14291673747578343837, 221811693264799578, 1737717031765098770, 10992729701402291481, 12912154004749740004]
def gs1L : List Int := [2875360261032717087, 4794573995827797191, 13788916220620543132, 11820327728053747623, 5281139048689161658, 3058727709351886605]
def threeL : List Int := [3, 0, 0, 0, 0, 0]
def pTwoL : List Int := [18446744065119617025, 8589934592, 18446744065119617024, 8589934592, 1, 0]
def gxRL : List Int := [4454189113653900584, 2369870743683386936, 9771750146904378734, 7229551204834152191, 9308930686126579243, 5564951339003155731]
def gxxRL : List Int := [4501802243772798096, 12646221062029792798, 5240004169776769886, 979062090563314096, 11954637948085912160, 14054331213410354807]
def threeRL : List Int := [18446744060824649731, 12884901887, 3, 0, 0, 0]
def gyRL : List Int := [2523209505731486974, 11655219901025790380, 10064955099576512592, 14322381509056856025, 15960759442596276288, 3132442392059561449]
def gBL : List Int := [581395848458481100, 17809957346689692396, 8643006485390950958, 16372638458395724514, 13126622871277412500, 14774077593024970745]
def oneL : List Int := [1, 0, 0, 0, 0, 0]
def primeD : D := .agg primeC
end Go.Proofs.YtjmcgdhekjkjfaaDoor
set_option linter.unusedSimpArgs false
set_option linter.unusedVariables false
namespace Go.Proofs.YtjmcgdhekjkjfaaDoor
open Go Go.VM
set_option maxRecDepth 100000
set_option maxHeartbeats 4000000
theorem pr_x : callN (envG gEn) 400 12 127 [.d (limbD gxL), .d (limbD pTwoL), .d primeD] = some ⟨[.d (limbD gxRL)], []⟩ := by kernel_rfl
theorem pr_xx : callN (envG gEn) 400 12 127 [.d (limbD gxRL), .d (limbD gxL), .d primeD] = some ⟨[.d (limbD gxxL)], []⟩ := by kernel_rfl
end Go.Proofs.YtjmcgdhekjkjfaaDoor
set_option linter.unusedSimpArgs false
set_option linter.unusedVariables false
namespace Go.Proofs.YtjmcgdhekjkjfaaDoor
open Go Go.VM
set_option maxRecDepth 100000
set_option maxHeartbeats 4000000
theorem pr_xx2 : callN (envG gEn) 400 12 127 [.d (limbD gxxL), .d (limbD pTwoL), .d primeD] = some ⟨[.d (limbD gxxRL)], []⟩ := by kernel_rfl
theorem pr_xxx : callN (envG gEn) 400 12 127 [.d (limbD gxxRL), .d (limbD gxL), .d primeD] = some ⟨[.d (limbD gxxxL)], []⟩ := by kernel_rfl
end Go.Proofs.YtjmcgdhekjkjfaaDoor
set_option linter.unusedSimpArgs false
set_option linter.unusedVariables false
namespace Go.Proofs.YtjmcgdhekjkjfaaDoor
open Go Go.VM
set_option maxRecDepth 100000
set_option maxHeartbeats 4000000
theorem pr_t : callN (envG gEn) 400 12 127 [.d (limbD threeL), .d (limbD pTwoL), .d primeD] = some ⟨[.d (limbD threeRL)], []⟩ := by kernel_rfl
theorem pr_tx : callN (envG gEn) 400 12 127 [.d (limbD threeRL), .d (limbD gxL), .d primeD] = some ⟨[.d (limbD gtxL)], []⟩ := by kernel_rfl
end Go.Proofs.YtjmcgdhekjkjfaaDoor
set_option linter.unusedSimpArgs false
set_option linter.unusedVariables false
namespace Go.Proofs.YtjmcgdhekjkjfaaDoor
open Go Go.VM
set_option maxRecDepth 100000
set_option maxHeartbeats 4000000
theorem pr_y : callN (envG gEn) 400 12 127 [.d (limbD gyL), .d (limbD pTwoL), .d primeD] = some ⟨[.d (limbD gyRL)], []⟩ := by kernel_rfl
theorem pr_yy : callN (envG gEn) 400 12 127 [.d (limbD gyRL), .d (limbD gyL), .d primeD] = some ⟨[.d (limbD gyyL)], []⟩ := by kernel_rfl
end Go.Proofs.YtjmcgdhekjkjfaaDoor
