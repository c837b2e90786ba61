/- What prim.Bits hands back: for every row of bytes. -/
import Derived.Test.YtmehkdomnhgmeaaT43
import Derived.Test.YtmehkdomnhgmeaaVMS
import Derived.Test.YtmehkdomnhgmeaaVMT
namespace Go.Proofs.Ytmehkdomnhgmeaa
open Go Go.VM
set_option linter.unusedSimpArgs false
set_option linter.unusedVariables false
set_option maxRecDepth 100000
set_option maxHeartbeats 4000000

theorem and_low {l : Int} (h0 : 0 ≤ l) (h1 : l < 256) (n : Nat) (hn : n ≤ 8) : andI .u8 l (2 ^ n - 1) = l % 2 ^ n := by
  have hq : andI .u8 l (2 ^ n - 1) = IntKind.u8.wrap ((BitVec.ofInt 8 l &&& BitVec.ofInt 8 (2 ^ n - 1)).toNat : Int) := rfl
  have hp : (2 : Int) ^ n ≤ 256 := by
    have : (2 : Nat) ^ n ≤ 2 ^ 8 := Nat.pow_le_pow_right (by omega) hn
    have : ((2 ^ n : Nat) : Int) ≤ ((2 ^ 8 : Nat) : Int) := by exact_mod_cast this
    simpa using this
  have hp1 : (1 : Int) ≤ 2 ^ n := by
    have : 1 ≤ (2 : Nat) ^ n := Nat.one_le_two_pow
    have : ((1 : Nat) : Int) ≤ ((2 ^ n : Nat) : Int) := by exact_mod_cast this
    simpa using this
  rw [hq, BitVec.toNat_and, ofInt_toNat h0 (by omega), ofInt_toNat (by omega) (by omega)]
  obtain ⟨m, rfl⟩ := Int.eq_ofNat_of_zero_le h0
  have e1 : ((2 : Int) ^ n - 1).toNat = 2 ^ n - 1 := by
    have : ((2 : Int) ^ n) = ((2 ^ n : Nat) : Int) := by simp
    rw [this]; omega
  rw [e1, Int.toNat_natCast, Nat.and_two_pow_sub_one_eq_mod]
  have : m % 2 ^ n ≤ m := Nat.mod_le _ _
  rw [wrap_ok (by simp; omega) (by simp; omega)]
  simp

/-- The bits of a body. -/
def bitsOf (xs : List Int) : Option (List Int × Int) :=
  match xs with
  | [] => none
  | x :: t => if 7 < x then none else if x = 0 then some (t, 0) else match t.getLast? with
    | none => none
    | some l => if l % 2 ^ x.toNat = 0 then some (t, x) else none

theorem t16 (fuel n : Nat) (nl : Bool) (xs : List Int) (hn : nl = true → xs = []) (hx : xs.length ≤ 140737488355328) (hb : ∀ x ∈ xs, 0 ≤ x ∧ x < 256) :
    callN env fuel (n+2) 16 [.d (.nums .u8 nl xs)] = some (match bitsOf xs with
    | none => ⟨[.d (.nums .u8 true []), .d (.int .i64 0), .d (err 7)], []⟩
    | some (t, x) => ⟨[.d (.nums .u8 false t), .d (.int .i64 x), .d .nilifc], [0]⟩) := by
  rw [callN_run (fn := Try.f16) rfl rfl rfl (by simp [Try.ntmps16])]
  generalize hC : env.ctx 16 (callN env fuel (n+1)) (callP env fuel (n+1)) = C
  have htt : C.tt = env.tt := by rw [← hC]; rfl
  have hlin : C.lin = [] := by rw [← hC]; rfl
  have hcall : C.call = callN env fuel (n+1) := by rw [← hC]; rfl
  have hl3 : C.live 200003 = [] := by rw [← hC]; rfl
  have hl4 : C.live 200004 = [] := by rw [← hC]; rfl
  unfold err
  rcases xs with _ | ⟨x, t⟩
  · simp [htt, hlin, hcall, bitsOf]
  · have hnl : nl = false := by cases nl <;> simp at hn ⊢
    subst hnl
    obtain ⟨x0, x1⟩ := hb x (List.mem_cons_self ..)
    simp only [List.length_cons] at hx
    have e1 : (1 : Int) ≤ (t.length : Int) + 1 := by omega
    have e2 : t.length ≤ 140737488355328 := by omega
    have e3 : ¬ ((t.length : Int) + 1 = 0) := by omega
    by_cases h7 : 7 < x
    · simp [htt, hlin, hcall, bitsOf, h7, e3]
    · by_cases h0 : x = 0
      · subst h0
        simp [htt, hlin, hcall, hl3, hl4, bitsOf, e1, e2, e3, t43]
      · have hx7 : x = 1 ∨ x = 2 ∨ x = 3 ∨ x = 4 ∨ x = 5 ∨ x = 6 ∨ x = 7 := by omega
        rcases List.eq_nil_or_concat t with rfl | ⟨ys, l, rfl⟩
        · rcases hx7 with rfl | rfl | rfl | rfl | rfl | rfl | rfl <;> simp [htt, hlin, hcall, hl3, hl4, bitsOf]
        · obtain ⟨l0, l1⟩ := hb l (by simp)
          simp only [List.concat_eq_append] at *
          simp only [List.length_append, List.length_cons, List.length_nil] at hx e1 e2 e3
          have e4 : (1 : Int) ≤ (ys.length : Int) + 1 + 1 := by omega
          have e5 : ¬ ((ys.length : Int) + 1 = 0) := by omega
          have e6 : ¬ ((ys.length : Int) + 1 + 1 = 0) := by omega
          have e7 : ys.length + 1 ≤ 140737488355328 := by omega
          have e8 : (ys.length : Int) ≤ 9223372036854775807 := by omega
          have e9 : (-9223372036854775808 : Int) ≤ (ys.length : Int) := by omega
          have key : ∀ m : Nat, 1 ≤ m → m ≤ 7 → andI .u8 l (2 ^ m - 1) = l % 2 ^ m := fun m _ _ => and_low l0 l1 m (by omega)
          rcases hx7 with rfl | rfl | rfl | rfl | rfl | rfl | rfl
          · have k := key 1 (by omega) (by omega)
            simp at k
            by_cases hl : l % 2 = 0 <;> simp [htt, hlin, hcall, hl3, hl4, bitsOf, e4, e5, e6, e7, e8, e9, t43, k, hl]
          · have k := key 2 (by omega) (by omega)
            simp at k
            by_cases hl : l % 4 = 0 <;> simp [htt, hlin, hcall, hl3, hl4, bitsOf, e4, e5, e6, e7, e8, e9, t43, k, hl]
          · have k := key 3 (by omega) (by omega)
            simp at k
            by_cases hl : l % 8 = 0 <;> simp [htt, hlin, hcall, hl3, hl4, bitsOf, e4, e5, e6, e7, e8, e9, t43, k, hl]
          · have k := key 4 (by omega) (by omega)
            simp at k
            by_cases hl : l % 16 = 0 <;> simp [htt, hlin, hcall, hl3, hl4, bitsOf, e4, e5, e6, e7, e8, e9, t43, k, hl]
          · have k := key 5 (by omega) (by omega)
            simp at k
            by_cases hl : l % 32 = 0 <;> simp [htt, hlin, hcall, hl3, hl4, bitsOf, e4, e5, e6, e7, e8, e9, t43, k, hl]
          · have k := key 6 (by omega) (by omega)
            simp at k
            by_cases hl : l % 64 = 0 <;> simp [htt, hlin, hcall, hl3, hl4, bitsOf, e4, e5, e6, e7, e8, e9, t43, k, hl]
          · have k := key 7 (by omega) (by omega)
            simp at k
            by_cases hl : l % 128 = 0 <;> simp [htt, hlin, hcall, hl3, hl4, bitsOf, e4, e5, e6, e7, e8, e9, t43, k, hl]
end Go.Proofs.Ytmehkdomnhgmeaa
