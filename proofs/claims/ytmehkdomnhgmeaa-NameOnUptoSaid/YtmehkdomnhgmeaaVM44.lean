/- The machine over values: equations to reckon by, for rows of records. -/
import Derived.Test.YtmehkdomnhgmeaaVM42
set_option linter.unusedSimpArgs false
set_option linter.unusedVariables false
namespace Go.VM
open Go

theorem append_sl (C : Ctx) (st : St) (t : Nat) (own : Bool) (sz : Nat) (nl : Bool) (xs : List (List D)) (s : V) : evAppend C st t own (.d (.sl sz nl xs)) s =
    bindV (C.tt t) fun i => bindV (elemK i.k) fun e => bindV (C.tt e) fun j => condE ((own || nl) && decide (j.size = sz) && decide (0 < sz)) (bindV (srcSl st sz s) fun ys =>
      if (xs.length + ys.length) * j.bytes ≤ room ∧ xs.length + ys.length ≤ room then some (.sl sz (nl && ys.isEmpty) (xs ++ ys)) else none) none := by
  unfold evAppend
  rcases C.tt t with _ | ⟨tk, s1, b1, z1, c1, q1⟩
  · rfl
  · cases tk with
    | slice e =>
      show (match C.tt e with | some j => _ | none => none) = bindV (C.tt e) _
      rcases C.tt e with _ | j
      · rfl
      · show (bif (own || nl) && Nat.beq j.size sz && Nat.blt 0 sz then _ else none) = condE ((own || nl) && decide (j.size = sz) && decide (0 < sz)) _ none
        rw [← nbeq_dec, ← nblt_dec]
        unfold condE
        congr 1
        show (match srcSl st sz s with | some ys => _ | none => none) = bindV (srcSl st sz s) _
        rcases srcSl st sz s with _ | ys
        · rfl
        · show (bif decide ((xs.length + ys.length) * j.bytes ≤ room) && decide (xs.length + ys.length ≤ room) then _ else none) = if _ then _ else none
          by_cases h1 : (xs.length + ys.length) * j.bytes ≤ room
          · by_cases h2 : xs.length + ys.length ≤ room
            · simp [-room, h1, h2]
            · simp [-room, h1, h2]
          · simp [-room, h1]
    | _ => rfl
theorem srcSl_sl (st : St) (sz : Nat) (nl : Bool) (xs : List (List D)) : srcSl st sz (.d (.sl sz nl xs)) = some xs := by
  show (bif Nat.beq sz sz then some xs else none) = some xs
  simp
attribute [simp] append_sl srcSl_sl
end Go.VM
