/- What prim.SmallOf and the reference's SmallOf hand back: for every input. -/
import Derived.Test.YtmehkdomnhgmeaaT7
import Derived.Test.YtmehkdomnhgmeaaT6
namespace Go.Proofs.Ytmehkdomnhgmeaa
open Go Go.VM
set_option linter.unusedSimpArgs false
set_option linter.unusedVariables false
set_option maxRecDepth 100000
set_option maxHeartbeats 4000000

def wrap8 (x : Int) : Int := IntKind.u8.wrap x
theorem wrap8_eq (x : Int) : wrap8 x = x % 256 := by
  simp [wrap8, IntKind.wrap, IntKind.signed, IntKind.bits]

/-- A small number's four bytes. -/
def four (n : Int) : List Int := [n / 16777216 % 256, n / 65536 % 256, n / 256 % 256, n % 256]

theorem t25 (fuel n : Nat) (m : Int) (h : -9223372036854775808 ≤ m ∧ m ≤ 9223372036854775807) : callN env (fuel + 100) (n+3) 25 [.d (.int .i64 m)] = some (if m < 0 ∨ 2147483647 < m then ⟨[.d (.nums .u8 true []), .d (err 3)], []⟩ else
    match numberOf (four m) with
    | .inl e => ⟨[.d (.nums .u8 true []), .d (err e)], []⟩
    | .inr ys => ⟨[.d (.nums .u8 false ys), .d .nilifc], [0]⟩) := by
  rw [callN_run (fn := Try.f25) rfl rfl rfl (by simp [Try.ntmps25])]
  generalize hC : env.ctx 25 (callN env (fuel + 100) (n+2)) = C
  have htt : C.tt = env.tt := by rw [← hC]; rfl
  have hlin : C.lin = [] := by rw [← hC]; rfl
  have hcall : C.call = callN env (fuel + 100) (n+2) := by rw [← hC]; rfl
  by_cases h0 : m < 0
  · simp [htt, hlin, hcall, h0, err]
  · by_cases h1 : 2147483647 < m
    · simp [htt, hlin, hcall, h0, h1, err]
    · have a1 := t21 (fuel + 100) n false (four m) (by simp) (by simp [four])
      have s1 : IntKind.i64.wrap (m.fdiv 16777216) = m / 16777216 := by
        rw [Int.fdiv_eq_ediv_of_nonneg _ (by omega)]; exact wrap_ok (by simp; omega) (by simp; omega)
      have s2 : IntKind.i64.wrap (m.fdiv 65536) = m / 65536 := by
        rw [Int.fdiv_eq_ediv_of_nonneg _ (by omega)]; exact wrap_ok (by simp; omega) (by simp; omega)
      have s3 : IntKind.i64.wrap (m.fdiv 256) = m / 256 := by
        rw [Int.fdiv_eq_ediv_of_nonneg _ (by omega)]; exact wrap_ok (by simp; omega) (by simp; omega)
      have w8 : ∀ x, IntKind.u8.wrap x = x % 256 := wrap8_eq
      unfold four at a1
      unfold four
      cases hnum : numberOf [m / 16777216 % 256, m / 65536 % 256, m / 256 % 256, m % 256] with
      | inl e =>
        rw [hnum] at a1
        simp [htt, hlin, hcall, h0, h1, s1, s2, s3, w8, a1, err]
      | inr ys =>
        rw [hnum] at a1
        simp [htt, hlin, hcall, h0, h1, s1, s2, s3, w8, a1, err]
end Go.Proofs.Ytmehkdomnhgmeaa
