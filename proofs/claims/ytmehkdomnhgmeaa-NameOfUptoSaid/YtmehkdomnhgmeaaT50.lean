/- What name.list and the two ways to tell a name's element hand back. -/
import Derived.Test.YtmehkdomnhgmeaaT52
namespace Go.Proofs.Ytmehkdomnhgmeaa
open Go Go.VM
set_option linter.unusedSimpArgs false
set_option linter.unusedVariables false
set_option maxRecDepth 100000
set_option maxHeartbeats 4000000
@[simp] theorem tt60 : env.tt 60 = some { k := (.slice 62), size := 1, bytes := 24, zero := [(.sl 5 true [])], cmp := false, eq := true } := rfl
@[simp] theorem tt62 : env.tt 62 = some { k := (.struct [(0, 3), (1, 3), (2, 4), (3, 22), (4, 60)]), size := 5, bytes := 72, zero := [(.int .i64 (0)), (.int .i64 (0)), (.bool false), (.nums .u8 true []), (.sl 5 true [])], cmp := false, eq := true } := rfl

def leafD (tag : Int) (b : List Int) : List D := [.int .i64 0, .int .i64 tag, .bool false, .nums .u8 false b, .sl 5 true []]
def nodeD (tag : Int) (nl : Bool) (kids : List (List D)) : List D := [.int .i64 0, .int .i64 tag, .bool true, .nums .u8 true [], .sl 5 nl kids]
def partD (p : Int × List Int) : List D := nodeD 17 false [nodeD 16 false [leafD 6 [85, 4, p.1], leafD 12 p.2]]
def nameD (l : List (Int × List Int)) : List D := nodeD 16 l.isEmpty (l.map partD)

theorem t50 (fuel n : Nat) (nl : Bool) (kids : List (List D)) : callN env fuel (n+1) 50 [.d (.sl 5 nl kids)] = some ⟨[.d (.agg (nodeD 16 nl kids))], []⟩ := by
  rw [callN_run (fn := Try.f50) rfl rfl rfl (by simp [Try.ntmps50])]
  generalize hC : env.ctx 50 (callN env fuel n) (callP env fuel n) = C
  have htt : C.tt = env.tt := by rw [← hC]; rfl
  have hlin : C.lin = [] := by rw [← hC]; rfl
  unfold nodeD
  simp [htt, hlin]
end Go.Proofs.Ytmehkdomnhgmeaa
