/- The machine over values: laws on numbers, bits and bytes. -/
import Derived.Test.YtmehkdomnhgmeaaVM31
set_option linter.unusedSimpArgs false
set_option linter.unusedVariables false
namespace Go.VM
open Go

theorem ofInt_toNat {w : Nat} {x : Int} (h0 : 0 ≤ x) (h1 : x < 2 ^ w) : (BitVec.ofInt w x).toNat = x.toNat := by
  rw [BitVec.toNat_ofInt]
  congr 1
  exact Int.emod_eq_of_lt h0 (by exact_mod_cast h1)

theorem or_bits {v x : Int} (h0 : 0 ≤ v) (h1 : v < 2 ^ 55) (h2 : 0 ≤ x) (h3 : x < 256) :
    ((BitVec.ofInt 64 (v * 256) ||| BitVec.ofInt 64 x).toNat : Int) = v * 256 + x := by
  rw [BitVec.toNat_or, ofInt_toNat (by omega) (by omega), ofInt_toNat h2 (by omega)]
  obtain ⟨n, rfl⟩ := Int.eq_ofNat_of_zero_le h0
  obtain ⟨m, rfl⟩ := Int.eq_ofNat_of_zero_le h2
  have e1 : ((n : Int) * 256).toNat = 2 ^ 8 * n := by omega
  rw [e1, Int.toNat_natCast, ← Nat.two_pow_add_eq_or_of_lt (by omega : m < 2 ^ 8)]
  omega
/-- A byte behind a number. -/
theorem or_byte {v x : Int} (h0 : 0 ≤ v) (h1 : v < 36028797018963968) (h2 : 0 ≤ x) (h3 : x < 256) : orI .i64 (v * 256) x = v * 256 + x := by
  have hq : orI .i64 (v * 256) x = IntKind.i64.wrap ((BitVec.ofInt 64 (v * 256) ||| BitVec.ofInt 64 x).toNat : Int) := rfl
  rw [hq, or_bits h0 (by omega) h2 h3]
  exact wrap_ok (by simp; omega) (by simp; omega)

end Go.VM
