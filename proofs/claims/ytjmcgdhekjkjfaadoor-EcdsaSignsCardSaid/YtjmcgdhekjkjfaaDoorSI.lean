/- The reference's numbers: Cmp, N. -/
import Derived.Test.YtjmcgdhekjkjfaaDoorSH
import Derived.Test.YtjmcgdhekjkjfaaDoorVMS
import Derived.Test.YtjmcgdhekjkjfaaDoorVMU
set_option linter.unusedSimpArgs false
set_option linter.unusedVariables false
namespace Go.Proofs.YtjmcgdhekjkjfaaDoor
open Go Go.VM
variable {G : GE}
set_option maxRecDepth 100000
set_option maxHeartbeats 4000000
theorem t_Cmp (F n : Nat) (na nb : Bool) (a b : List Int) (hx : a.length ≤ 140737488355328) (hf : a.length < F) :
    callN (envG G) F (n+1) 46 [.d (.nums .u64 na a), .d (.nums .u64 nb b)] = some ⟨[.d (.int .i64 (cmpL a b))], []⟩ := by
  rw [callN_run (fn := Tryd.f46) rfl rfl rfl (by simp [Tryd.ntmps46])]
  generalize hC : (envG G).ctx 46 (callN (envG G) F (n)) (callP (envG G) F (n)) = C
  have htt : C.tt = (envG G).tt := by rw [← hC]; rfl
  have hlin : C.lin = [] := by rw [← hC]; rfl
  have hreg : C.reg = reg46 := by rw [← hC]; rfl
  have hcall : C.call = callN (envG G) F (n) := by rw [← hC]; rfl
  have hcallP : C.callP = callP (envG G) F (n) := by rw [← hC]; rfl
  have hlv_6 : C.live 6 = [0, 1, 5] := by rw [← hC]; rfl
  have hlv_100006 : C.live 100006 = [4] := by rw [← hC]; rfl
  have hlv_200008 : C.live 200008 = [] := by rw [← hC]; rfl
  have hlv_250008 : C.live 250008 = [] := by rw [← hC]; rfl
  have hlv_200010 : C.live 200010 = [] := by rw [← hC]; rfl
  have hlv_250010 : C.live 250010 = [] := by rw [← hC]; rfl
  have hL := fun st h' h => loop_cmp (G := G) hC rfl na nb a b hx a.length F st (Nat.le_refl _) h' hf h
  clear hC
  unfold cmpL
  by_cases h1 : a.length < b.length
  · have e1 : ¬ (a.length : Int) = b.length := by omega
    have e2 : (a.length : Int) < b.length := by omega
    have e3 : ¬ a.length = b.length := by omega
    simp [htt, hlin, hreg, reg46, hcall, hcallP, hlv_6, hlv_100006, hlv_200008, hlv_250008, hlv_200010, hlv_250010, e1, e2, e3, h1]
  · by_cases h2 : b.length < a.length
    · have e1 : ¬ (a.length : Int) = b.length := by omega
      have e2 : ¬ (a.length : Int) < b.length := by omega
      have e3 : ¬ a.length = b.length := by omega
      simp [htt, hlin, hreg, reg46, hcall, hcallP, hlv_6, hlv_100006, hlv_200008, hlv_250008, hlv_200010, hlv_250010, e1, e2, e3, h1, h2]
    · have e3 : a.length = b.length := by omega
      have hL := fun st => hL st (by omega)
      simp only [h1, h2, decide_false]
      generalize cmpT a b a.length = z at *
      have e4 : (-9223372036854775808 : Int) ≤ (b.length : Int) - 1 := by omega
      have e5 : (b.length : Int) - 1 ≤ 9223372036854775807 := by omega
      by_cases hz : z = 0
      · subst hz
        simp only at hL
        simp [htt, hlin, hreg, reg46, hcall, hcallP, hlv_6, hlv_100006, hlv_200008, hlv_250008, hlv_200010, hlv_250010, e3, e4, e5, ev_loop]
        rw [e3] at hL
        rw [hL _ (by simp)]
        simp [htt, hlin, hreg, reg46, hcall, hcallP, hlv_6, hlv_100006, hlv_200008, hlv_250008, hlv_200010, hlv_250010]
      · have hL2 : ∀ st, _ → _ := fun st h => by
          have := hL st h
          split at this
          · exact absurd rfl hz
          · exact this
        clear hL
        simp [htt, hlin, hreg, reg46, hcall, hcallP, hlv_6, hlv_100006, hlv_200008, hlv_250008, hlv_200010, hlv_250010, e3, e4, e5, ev_loop]
        rw [e3] at hL2
        rw [hL2 _ (by simp)]
        simp [htt, hlin, hreg, reg46, hcall, hcallP, hlv_6, hlv_100006, hlv_200008, hlv_250008, hlv_200010, hlv_250010]
def nL : List Int := [3435473267, 3974895978, 1219536762, 1478102450, 4097256927, 3345173889, 4294967295, 4294967295, 4294967295, 4294967295, 4294967295, 4294967295]
theorem t_rN (F n : Nat) : callN (envG G) F (n+1) 45 [] = some ⟨[.d (.nums .u64 false nL)], [0]⟩ := by
  rw [callN_run (fn := Tryd.f45) rfl rfl rfl (by simp [Tryd.ntmps45])]
  generalize hC : (envG G).ctx 45 (callN (envG G) F (n)) (callP (envG G) F (n)) = C
  have htt : C.tt = (envG G).tt := by rw [← hC]; rfl
  have hlin : C.lin = [] := by rw [← hC]; rfl
  have hreg : C.reg = reg45 := by rw [← hC]; rfl
  have hcall : C.call = callN (envG G) F (n) := by rw [← hC]; rfl
  have hcallP : C.callP = callP (envG G) F (n) := by rw [← hC]; rfl
  clear hC
  simp [htt, hlin, hreg, reg45, hcall, hcallP, nL]
theorem nL_val : vL nL = wL groupM := by
  simp only [nL, groupM, vL, wL]
  omega
theorem nL_canon : Canon nL := by
  refine ⟨?_, ?_⟩
  · unfold In32 nL
    simp
  · intro x hx
    simp [nL] at hx
    omega
theorem cmp_scalar {l : List Int} (h : In64 l) : decide (cmpL (trimL (halves l)) nL < 0) = decide (wL l < wL groupM) := by
  have h1 := cmpL_lt (trimL_canon (halves_in l h)) nL_canon
  rw [vL_trim, vL_halves, nL_val] at h1
  by_cases h2 : wL l < wL groupM
  · simp [h2, h1.2 h2]
  · have : ¬ cmpL (trimL (halves l)) nL < 0 := fun h3 => h2 (h1.1 h3)
    simp [h2, this]
end Go.Proofs.YtjmcgdhekjkjfaaDoor
set_option linter.unusedSimpArgs false
set_option linter.unusedVariables false
namespace Go.Proofs.YtjmcgdhekjkjfaaDoor
open Go Go.VM
set_option maxRecDepth 100000
set_option maxHeartbeats 4000000
def u64s (l : List Int) : List D := l.map (.int .u64)
def primeC : List D := u64s [4294967295, 18446744069414584320, 18446744073709551614, 18446744073709551615, 18446744073709551615, 18446744073709551615, 4294967297, 18446744065119617025, 8589934592, 18446744065119617024, 8589934592, 1, 0]
def curveBC : List D := u64s [581395848458481100, 17809957346689692396, 8643006485390950958, 16372638458395724514, 13126622871277412500, 14774077593024970745]
def oneC : List D := u64s [18446744069414584321, 4294967295, 1, 0, 0, 0]
def baseC : List D := u64s [4203087948775033527, 6125724927633205612, 6482722621138151992, 7934563412932533144, 10282218360005504372, 12288012358878168375, 8809917716911230559, 747793036959711645, 16850834916486723776, 17938995913990739068, 6745997240412855337, 3897828414440483951] ++ [.bool false]
def dataE (g : Nat) : Option (List D) := match Nat.beq g 0 with
  | true => some groupC
  | false => match Nat.beq g 7 with
    | true => some primeC
    | false => match Nat.beq g 4 with
      | true => some primeC
      | false => match Nat.beq g 6 with
        | true => some curveBC
        | false => match Nat.beq g 3 with
          | true => some oneC
          | false => match Nat.beq g 2 with
            | true => some baseC
            | false => none
def extE (f : FuncId) (args : List V) : Option Ret := match Nat.beq f 16 with
  | true => isX args
  | false => match Nat.beq f 145 with
    | true => addX args
    | false => match Nat.beq f 128 with
      | true => subX args
      | false => match Nat.beq f 124 with
        | true => lAddX args
        | false => match Nat.beq f 94 with
          | true => lSubX args
          | false => match Nat.beq f 50 with
            | true => sameX args
            | false => none
noncomputable def gEs : GE := { glob := fun g => match Nat.beq g 1 with | true => some errT | false => dataE g, ext := extE }
def gxL : List Int := [4203087948775033527, 6125724927633205612, 6482722621138151992, 7934563412932533144, 10282218360005504372, 12288012358878168375]
def gyL : List Int := [8809917716911230559, 747793036959711645, 16850834916486723776, 17938995913990739068, 6745997240412855337, 3897828414440483951]
def gxxL : List Int := [16294626064404623385, 10585817920061350536, 18435557229683883882, 14066213651302547681, 7433228009852402719, 318340665191803977]
def gxxxL : List Int := [15484624098767883078, 4725004713607797003, 14790340010325447495, 17177273893141795440, 17681050054996123159, 3029276638567288499]
def gtxL : List Int := [12609263842030133286, 18377174787194584132, 1001423789704904361, 5356946165088047817, 12399911006306961501, 18417293002924953510]
def gyyL : List Int := [5939436306316482062, 639503669696589412, 14010727913885342711, 13558044759818846393, 16273868750091453139, 15970881714101626609]
def gbL : List Int := [3064076045283764975, 14291673747578343837, 221811693264799578, 1737717031765098770, 10992729701402291481, 12912154004749740004]
def gs1L : List Int := [2875360261032717087, 4794573995827797191, 13788916220620543132, 11820327728053747623, 5281139048689161658, 3058727709351886605]
def threeL : List Int := [3, 0, 0, 0, 0, 0]
def pTwoL : List Int := [18446744065119617025, 8589934592, 18446744065119617024, 8589934592, 1, 0]
def gxRL : List Int := [4454189113653900584, 2369870743683386936, 9771750146904378734, 7229551204834152191, 9308930686126579243, 5564951339003155731]
def gxxRL : List Int := [4501802243772798096, 12646221062029792798, 5240004169776769886, 979062090563314096, 11954637948085912160, 14054331213410354807]
def threeRL : List Int := [18446744060824649731, 12884901887, 3, 0, 0, 0]
def gyRL : List Int := [2523209505731486974, 11655219901025790380, 10064955099576512592, 14322381509056856025, 15960759442596276288, 3132442392059561449]
def gBL : List Int := [581395848458481100, 17809957346689692396, 8643006485390950958, 16372638458395724514, 13126622871277412500, 14774077593024970745]
def oneL : List Int := [1, 0, 0, 0, 0, 0]
def primeD : D := .agg primeC
end Go.Proofs.YtjmcgdhekjkjfaaDoor
set_option linter.unusedSimpArgs false
set_option linter.unusedVariables false
namespace Go.Proofs.YtjmcgdhekjkjfaaDoor
open Go Go.VM
set_option maxRecDepth 100000
set_option maxHeartbeats 4000000
def u64C : CS := .int .u64
def sU : Sh := .one (.int .u64)
def sI : Sh := .one (.int .i64)
def sB : Sh := .one .bool
def s6 : Sh := .agg [.int .u64, .int .u64, .int .u64, .int .u64, .int .u64, .int .u64]
def s12 : Sh := .agg [.int .u64, .int .u64, .int .u64, .int .u64, .int .u64, .int .u64, .int .u64, .int .u64, .int .u64, .int .u64, .int .u64, .int .u64]
def s13 : Sh := .agg [.int .u64, .int .u64, .int .u64, .int .u64, .int .u64, .int .u64, .int .u64, .int .u64, .int .u64, .int .u64, .int .u64, .int .u64, .int .u64]
def s18 : Sh := .agg [.int .u64, .int .u64, .int .u64, .int .u64, .int .u64, .int .u64, .int .u64, .int .u64, .int .u64, .int .u64, .int .u64, .int .u64, .int .u64, .int .u64, .int .u64, .int .u64, .int .u64, .int .u64]
def sPt : Sh := .agg [.int .u64, .int .u64, .int .u64, .int .u64, .int .u64, .int .u64, .int .u64, .int .u64, .int .u64, .int .u64, .int .u64, .int .u64, .bool]
theorem tot_nil {fuel N : Nat} : ∀ e ∈ ([] : List Entry), Tot (envG gEs) fuel N e.f e.as e.rs := fun e h => by cases h
theorem tt_Pick : Tot (envG gEs) 400 12 129 [sU, s6, s6] [s6] := tot_of (n := 12) (N := 0) tot_nil (fun x b => by kernel_rfl)
theorem tt_Add : Tot (envG gEs) 400 12 124 [s6, s6] [s6, sU] := tot_of (n := 12) (N := 0) tot_nil (fun x b => by kernel_rfl)
theorem tt_Sub : Tot (envG gEs) 400 12 94 [s6, s6] [s6, sU] := tot_of (n := 12) (N := 0) tot_nil (fun x b => by kernel_rfl)
theorem tt_Less : Tot (envG gEs) 400 12 114 [s6, s6] [sU] := tot_of (n := 12) (N := 0) tot_nil (fun x b => by kernel_rfl)
end Go.Proofs.YtjmcgdhekjkjfaaDoor
set_option linter.unusedSimpArgs false
set_option linter.unusedVariables false
namespace Go.Proofs.YtjmcgdhekjkjfaaDoor
open Go Go.VM
set_option maxRecDepth 100000
set_option maxHeartbeats 4000000
theorem tt_Mul : Tot (envG gEs) 400 12 144 [s6, s6] [s12] := tot_of (n := 12) (N := 0) tot_nil (fun x b => by kernel_rfl)
end Go.Proofs.YtjmcgdhekjkjfaaDoor
set_option linter.unusedSimpArgs false
set_option linter.unusedVariables false
namespace Go.Proofs.YtjmcgdhekjkjfaaDoor
open Go Go.VM
set_option maxRecDepth 100000
set_option maxHeartbeats 4000000
theorem tt_Reduce : Tot (envG gEs) 400 12 143 [s12, s13] [s6] := tot_of (n := 12) (N := 0) tot_nil (fun x b => by kernel_rfl)
end Go.Proofs.YtjmcgdhekjkjfaaDoor
set_option linter.unusedSimpArgs false
set_option linter.unusedVariables false
namespace Go.Proofs.YtjmcgdhekjkjfaaDoor
open Go Go.VM
set_option maxRecDepth 100000
set_option maxHeartbeats 4000000
def tabA : List Entry := [⟨129, [sU, s6, s6], [s6]⟩, ⟨124, [s6, s6], [s6, sU]⟩, ⟨94, [s6, s6], [s6, sU]⟩, ⟨114, [s6, s6], [sU]⟩, ⟨144, [s6, s6], [s12]⟩, ⟨143, [s12, s13], [s6]⟩]
theorem tabA_ok : ∀ e ∈ tabA, Tot (envG gEs) 400 12 e.f e.as e.rs := by
  intro e he
  simp only [tabA, List.mem_cons, List.not_mem_nil, or_false] at he
  rcases he with rfl | rfl | rfl | rfl | rfl | rfl
  · exact tt_Pick
  · exact tt_Add
  · exact tt_Sub
  · exact tt_Less
  · exact tt_Mul
  · exact tt_Reduce
theorem tt_product : Tot (envG gEs) 400 20 127 [s6, s6, s13] [s6] := tot_of (n := 8) tabA_ok (fun x b => by kernel_rfl)
theorem tt_mAdd : Tot (envG gEs) 400 20 92 [s6, s6, s13] [s6] := tot_of (n := 8) tabA_ok (fun x b => by kernel_rfl)
theorem tt_mSub : Tot (envG gEs) 400 20 147 [s6, s6, s13] [s6] := tot_of (n := 8) tabA_ok (fun x b => by kernel_rfl)
theorem tt_mMul : Tot (envG gEs) 400 20 93 [s6, s6, s13] [s6] := tot_of (n := 8) tabA_ok (fun x b => by kernel_rfl)
theorem tt_pmul : Tot (envG gEs) 400 20 122 [s6, s6] [s6] := tot_of (n := 8) tabA_ok (fun x b => by kernel_rfl)
theorem tt_plus : Tot (envG gEs) 400 20 141 [s6, s6] [s6] := tot_of (n := 8) tabA_ok (fun x b => by kernel_rfl)
theorem tt_minus : Tot (envG gEs) 400 20 140 [s6, s6] [s6] := tot_of (n := 8) tabA_ok (fun x b => by kernel_rfl)
theorem tt_pPick : Tot (envG gEs) 400 20 120 [sU, s18, s18] [s18] := tot_of (n := 8) tabA_ok (fun x b => by kernel_rfl)
def tabB : List Entry := [⟨127, [s6, s6, s13], [s6]⟩, ⟨122, [s6, s6], [s6]⟩, ⟨141, [s6, s6], [s6]⟩, ⟨140, [s6, s6], [s6]⟩]
theorem tabB_ok : ∀ e ∈ tabB, Tot (envG gEs) 400 20 e.f e.as e.rs := by
  intro e he
  simp only [tabB, List.mem_cons, List.not_mem_nil, or_false] at he
  rcases he with rfl | rfl | rfl | rfl
  · exact tt_product
  · exact tt_pmul
  · exact tt_plus
  · exact tt_minus
theorem tt_pAdd : Tot (envG gEs) 400 30 119 [s18, s18] [s18] := tot_of (n := 10) tabB_ok (fun x b => by kernel_rfl)
end Go.Proofs.YtjmcgdhekjkjfaaDoor
