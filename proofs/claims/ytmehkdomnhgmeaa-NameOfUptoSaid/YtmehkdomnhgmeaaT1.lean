/- What prim.Truth hands back, and the types of the program that are asked for by name: for every input. -/
import Derived.Test.YtmehkdomnhgmeaaEnv1
import Derived.Test.YtmehkdomnhgmeaaVMQ
namespace Go.Proofs.Ytmehkdomnhgmeaa
open Go Go.VM
set_option linter.unusedSimpArgs false
set_option linter.unusedVariables false
set_option maxRecDepth 100000
set_option maxHeartbeats 4000000

@[simp] theorem tt3 : env.tt 3 = some { k := .int .i64, size := 1, bytes := 8, zero := [(.int .i64 (0))], cmp := true, eq := true } := rfl
@[simp] theorem tt4 : env.tt 4 = some { k := .bool, size := 1, bytes := 1, zero := [(.bool false)], cmp := true, eq := true } := rfl
@[simp] theorem tt5 : env.tt 5 = some { k := .int .u8, size := 1, bytes := 1, zero := [(.int .u8 (0))], cmp := true, eq := true } := rfl
@[simp] theorem tt9 : env.tt 9 = some { k := .str, size := 1, bytes := 16, zero := [(.str [])], cmp := true, eq := true } := rfl
@[simp] theorem tt22 : env.tt 22 = some { k := .slice 5, size := 1, bytes := 24, zero := [(.nums .u8 true [])], cmp := false, eq := true } := rfl
@[simp] theorem tt24 : env.tt 24 = some { k := .iface, size := 1, bytes := 16, zero := [.nilifc], cmp := true, eq := true } := rfl
@[simp] theorem tt27 : env.tt 27 = some { k := .int .i64, size := 1, bytes := 8, zero := [(.int .i64 (0))], cmp := true, eq := true } := rfl

def err (n : Int) : D := .ifc 27 (.int .i64 n)
def truthR (xs : List Int) : Ret :=
  match xs with
  | [b] => if b = 0 then ⟨[.d (.bool false), .d .nilifc], []⟩ else if b = 255 then ⟨[.d (.bool true), .d .nilifc], []⟩ else ⟨[.d (.bool false), .d (err 7)], []⟩
  | _ => ⟨[.d (.bool false), .d (err 7)], []⟩

theorem t15 (fuel n : Nat) (nl : Bool) (xs : List Int) : callN env fuel (n+1) 15 [.d (.nums .u8 nl xs)] = some (truthR xs) := by
  rw [callN_run (fn := Try.f15) rfl rfl rfl (by simp [Try.ntmps15])]
  generalize hC : env.ctx 15 (callN env fuel n) (callP env fuel n) = C
  have htt : C.tt = env.tt := by rw [← hC]; rfl
  have hlin : C.lin = [] := by rw [← hC]; rfl
  unfold truthR err
  rcases xs with _ | ⟨b, _ | ⟨c, t⟩⟩
  · simp [htt, hlin]
  · by_cases h0 : b = 0
    · subst h0
      simp [htt, hlin]
    · by_cases h1 : b = 255
      · subst h1
        simp [htt, hlin]
      · simp [htt, hlin, h0, h1]
  · have h : ¬ ((t.length : Int) + 1 + 1 = 1) := by omega
    simp [htt, hlin, h]
end Go.Proofs.Ytmehkdomnhgmeaa
