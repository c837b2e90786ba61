/- The machine over values: addresses, parts, operators. -/
import Derived.Test.YtjmcgdhekjkjfaaVM9
import Derived.Laws.StructEq
import Derived.WideLaws
set_option linter.unusedSimpArgs false
set_option linter.unusedVariables false
namespace Go.VM
open Go

variable {P : Program} {C : Ctx} {st st' : St} {a : Act} {w : World} {own : Own} {β : Nat → Option Nat}
variable {o : Oper} {next : Act → World → Prop} {Q : Exit → Act → World → Prop}

theorem nilCheck_sound (R : Rel C st a w own β) {x : Operand} (hop : o.op = .nilCheck x) (hd : ∀ t, o.dst = some t → t < a.tmps.size) {slot : Option Nat}
    (h : evOp C slot o st = some st') (hn : Next C st w own β a.tmps.size st' next) : o.wp P a w next Q := by
  simp only [evOp, hop] at h
  split at h
  · rename_i f cs hv
    cases h
    have hr := evO_sound R hv
    generalize he : a.eval x = v at hr
    have hr' := hr
    cases hr with | fn _ arr _ hs hh =>
    have hrun : (execOp a.eval o).run P w = .ok (.value (.func (.func f) #[] arr)) w := by
      simp [execOp, hop, he]
    exact wp_value hrun (next_put R hd hr' hn)
  · rename_i v hne hv
    split at h
    · rename_i hnil
      cases h
      have hr := evO_sound R hv
      generalize he : a.eval x = u at hr
      have hr' := hr
      unfold nilPtr at hnil
      split at hnil
      · cases hnil
      · obtain ⟨b, off, rfl, _⟩ := inv_fp hr
        exact wp_value (by simp [execOp, hop, he]) (next_put R hd hr' hn)
      · obtain ⟨b, _, rfl⟩ := inv_ptr hr
        exact wp_value (by simp [execOp, hop, he]) (next_put R hd hr' hn)
      · cases hr
        exact wp_value (by simp [execOp, hop, he]) (next_put R hd hr' hn)
      · cases hnil
    · cases h
  · cases h

-- ------------------------------------------------------------ operators

theorem wrap_wrap (k : IntKind) (n : Int) : k.wrap (k.wrap n) = k.wrap n := by
  cases k <;> simp only [IntKind.wrap, IntKind.signed, IntKind.bits] <;> simp <;> (repeat' split) <;> omega

theorem wrap_iff (k : IntKind) (n : Int) : k.wrap n = n ↔ k.min ≤ n ∧ n ≤ k.max := by
  cases k <;> simp only [IntKind.wrap, IntKind.signed, IntKind.bits, IntKind.min, IntKind.max] <;> simp <;> (repeat' split) <;> omega

theorem min_le_zero (k : IntKind) : k.min ≤ 0 ∧ 0 ≤ k.max := by cases k <;> decide

/-- What lies between 0 and a number of a kind is one. -/
theorem wrap_between {k : IntKind} {x r : Int} (hx : k.wrap x = x) (h1 : 0 ≤ x → 0 ≤ r ∧ r ≤ x) (h2 : x < 0 → x ≤ r ∧ r ≤ 0) : k.wrap r = r := by
  rw [wrap_iff] at hx ⊢
  have := min_le_zero k
  by_cases h : 0 ≤ x
  · have := h1 h; omega
  · have := h2 (by omega); omega

theorem wrap_tmod {k : IntKind} {x y : Int} (hx : k.wrap x = x) : k.wrap (x.tmod y) = x.tmod y := by
  refine wrap_between hx (fun h => ⟨Int.tmod_nonneg y h, ?_⟩) (fun h => ?_)
  · have := Nat.mod_le x.natAbs y.natAbs
    rw [← Int.natAbs_tmod] at this
    have h0 := Int.tmod_nonneg y h
    omega
  · have h0 := Int.tmod_nonneg y (a := -x) (by omega)
    rw [Int.neg_tmod] at h0
    have := Nat.mod_le x.natAbs y.natAbs
    rw [← Int.natAbs_tmod] at this
    omega

theorem evInt_sound {op : BinOp} {k : IntKind} {x y : Int} {r : D} (h : evInt op k x y = some r) (hx : k.wrap x = x) {t : TypeId} :
    ∃ v, (binOp op t (.int k x) (.int k y)).run P w = .ok v w ∧ RepD w own v r := by
  unfold evInt at h
  cases op <;> simp only at h
  case add => cases h; exact ⟨_, by simp [binOp, Op.intArith], .int _ _ (wrap_wrap _ _)⟩
  case sub => cases h; exact ⟨_, by simp [binOp, Op.intArith], .int _ _ (wrap_wrap _ _)⟩
  case mul => cases h; exact ⟨_, by simp [binOp, Op.intArith], .int _ _ (wrap_wrap _ _)⟩
  case quo =>
    cases h0 : y == 0 with
    | true => rw [h0] at h; cases h
    | false =>
      rw [h0] at h; cases h
      have : ¬ y = 0 := by simpa using h0
      exact ⟨_, by simp [binOp, Op.intDiv, this], .int _ _ (wrap_wrap _ _)⟩
  case rem =>
    cases h0 : y == 0 with
    | true => rw [h0] at h; cases h
    | false =>
      rw [h0] at h; cases h
      have : ¬ y = 0 := by simpa using h0
      refine ⟨.int k (x.tmod y), by simp [binOp, Op.intDiv, this], ?_⟩
      rw [wrap_tmod hx]
      exact .int _ _ (wrap_tmod hx)
  case eql => cases h; exact ⟨_, by simp [binOp, Op.intCmp], .bool _⟩
  case neq => cases h; exact ⟨_, by simp [binOp, Op.intCmp], .bool _⟩
  case lss => cases h; exact ⟨_, by simp [binOp, Op.intCmp], .bool _⟩
  case leq => cases h; exact ⟨_, by simp [binOp, Op.intCmp], .bool _⟩
  case gtr => cases h; exact ⟨_, by simp [binOp, Op.intCmp], .bool _⟩
  case geq => cases h; exact ⟨_, by simp [binOp, Op.intCmp], .bool _⟩
  case and => simp only [intBitsI] at h; cases h; exact ⟨_, by simp [binOp, Op.intBits], .int _ _ (wrap_wrap _ _)⟩
  case or => simp only [intBitsI] at h; cases h; exact ⟨_, by simp [binOp, Op.intBits], .int _ _ (wrap_wrap _ _)⟩
  case xor => simp only [intBitsI] at h; cases h; exact ⟨_, by simp [binOp, Op.intBits], .int _ _ (wrap_wrap _ _)⟩
  case andNot => simp only [intBitsI] at h; cases h; exact ⟨_, by simp [binOp, Op.intBits], .int _ _ (wrap_wrap _ _)⟩
  all_goals exact absurd h (by simp)

theorem wrap_fdiv {k : IntKind} {x : Int} (hx : k.wrap x = x) (n : Nat) : k.wrap (x.fdiv (2 ^ n)) = x.fdiv (2 ^ n) := by
  have hp : (0 : Int) < 2 ^ n := Int.pow_pos (by omega)
  have h1 : (1 : Int) ≤ 2 ^ n := hp
  rw [Int.fdiv_eq_ediv_of_nonneg _ (by omega)]
  refine wrap_between hx (fun h => ⟨Int.ediv_nonneg h (by omega), Int.ediv_le_self _ h⟩) (fun h => ?_)
  refine ⟨?_, Int.le_of_lt (Int.ediv_neg_of_neg_of_pos h hp)⟩
  rw [Int.le_ediv_iff_mul_le hp]
  have := Int.mul_le_mul_of_nonpos_left (show x ≤ 0 by omega) h1
  simpa using this

theorem evShift_sound {op : BinOp} {k k' : IntKind} {x y : Int} {r : D} (h : evShift op k x y = some r) (hx : k.wrap x = x) {t : TypeId} :
    ∃ v, (binOp op t (.int k x) (.int k' y)).run P w = .ok v w ∧ RepD w own v r := by
  unfold evShift at h
  cases h0 : decide (0 ≤ y) with
  | false => rw [h0] at h; cases h
  | true =>
    rw [h0] at h
    simp only [cond_true] at h
    have hy : ¬ y < 0 := by have := of_decide_eq_true h0; omega
    cases op <;> simp only at h
    case shl => cases h; exact ⟨_, by simp [binOp, Op.shift, hy], .int _ _ (wrap_wrap _ _)⟩
    case shr => cases h; exact ⟨.int k (x.fdiv (2 ^ min y.toNat k.bits)), by simp [binOp, Op.shift, hy], by rw [wrap_fdiv hx]; exact .int _ _ (wrap_fdiv hx _)⟩
    all_goals exact absurd h (by simp)

end Go.VM
