/- The machine over values: equations to reckon by, for cuts. -/
import Derived.Test.YtjmcgdhekjkjfaaVM40
set_option linter.unusedSimpArgs false
set_option linter.unusedVariables false
namespace Go.VM
open Go

section
variable (C : Ctx) (slot : Option Nat) (dst : Option Tmp) (ty : TypeId) (pos : String) (af : Array Edge) (g : Option (Nat × Bool)) (st : St)

theorem bnd_some (x : Operand) : bnd C st (some x) 0 = asI (evO C st 0 x) := by
  show (match evO C st 0 x with | some (.d (.int _ n)) => some n | _ => none) = _
  rcases evO C st 0 x with _ | u
  · rfl
  · cases u with
    | d d => cases d <;> rfl
    | _ => rfl

theorem op_slice2 (t : TypeId) (x hi : Operand) : evOp C slot ⟨dst, .slice t x none (some hi) none, ty, pos, af, g⟩ st = bindV (evO C st t x) fun v => bindV (asI (evO C st 0 hi)) fun h => bindV (evSlice C st t v 0 (some h) none) fun r => some ((st.put dst r.1).own dst r.2) := by
  show (match evO C st t x, (some 0 : Option Int) with
    | some v, some l => (match bnd C st (some hi) 0 with
        | some h => (match evSlice C st t v l (some h) none with
          | some (r, own) => some ((st.put dst r).own dst own)
          | none => none)
        | none => none)
    | _, _ => none) = _
  rcases evO C st t x with _ | v
  · rfl
  · simp only [bindV_some, bnd_some]
    rcases asI (evO C st 0 hi) with _ | h
    · rfl
    · simp only [bindV_some]
      rcases evSlice C st t v 0 (some h) none with _ | ⟨r, own⟩ <;> rfl

theorem op_slice12 (t : TypeId) (x lo hi : Operand) : evOp C slot ⟨dst, .slice t x (some lo) (some hi) none, ty, pos, af, g⟩ st = bindV (evO C st t x) fun v => bindV (asI (evO C st 0 lo)) fun l => bindV (asI (evO C st 0 hi)) fun h => bindV (evSlice C st t v l (some h) none) fun r => some ((st.put dst r.1).own dst r.2) := by
  show (match evO C st t x, bnd C st (some lo) 0 with
    | some v, some l => (match bnd C st (some hi) 0 with
        | some h => (match evSlice C st t v l (some h) none with
          | some (r, own) => some ((st.put dst r).own dst own)
          | none => none)
        | none => none)
    | _, _ => none) = _
  rcases evO C st t x with _ | v
  · rfl
  · simp only [bindV_some, bnd_some]
    rcases asI (evO C st 0 lo) with _ | l
    · rfl
    · simp only [bindV_some]
      rcases asI (evO C st 0 hi) with _ | h
      · rfl
      · simp only [bindV_some]
        rcases evSlice C st t v l (some h) none with _ | ⟨r, own⟩ <;> rfl

theorem op_slice0 (t : TypeId) (x : Operand) : evOp C slot ⟨dst, .slice t x none none none, ty, pos, af, g⟩ st = bindV (evO C st t x) fun v => bindV (evSlice C st t v 0 none none) fun r => some ((st.put dst r.1).own dst r.2) := by
  show (match evO C st t x, (some 0 : Option Int) with
    | some v, some l => (match evSlice C st t v l none none with
          | some (r, own) => some ((st.put dst r).own dst own)
          | none => none)
    | _, _ => none) = _
  rcases evO C st t x with _ | v
  · rfl
  · simp only [bindV_some]
    rcases evSlice C st t v 0 none none with _ | ⟨r, own⟩ <;> rfl
end

theorem slice_nums2 (C : Ctx) (st : St) (t : Nat) (k : IntKind) (nl : Bool) (xs : List Int) (lo hi : Int) : evSlice C st t (.d (.nums k nl xs)) lo (some hi) none =
    bindV (C.tt t) fun i => bindV (elemK i.k) fun e => bindV (C.tt e) fun j => if j.size = 1 ∧ 0 ≤ lo ∧ lo ≤ hi ∧ hi ≤ xs.length then some (.d (.nums k nl ((xs.take hi.toNat).drop lo.toNat)), false) else none := by
  unfold evSlice
  rcases C.tt t with _ | ⟨tk, s1, b1, z1, c1, q1⟩
  · rfl
  · cases tk with
    | slice e =>
      show (match C.tt e with | some j => _ | none => none) = bindV (C.tt e) _
      rcases C.tt e with _ | j
      · rfl
      · simp only [bindV_some, Option.getD_none, Option.getD_some, Option.isSome_none, Bool.false_and]
        by_cases h1 : j.size = 1
        · by_cases h2 : 0 ≤ lo <;> by_cases h3 : lo ≤ hi <;> by_cases h4 : hi ≤ xs.length <;> simp [h1, h2, h3, h4]
        · simp [nbeq_false h1, h1]
    | _ => rfl

theorem slice_sl1 (C : Ctx) (st : St) (t : Nat) (sz : Nat) (nl : Bool) (xs : List (List D)) (lo : Int) : evSlice C st t (.d (.sl sz nl xs)) lo none none =
    bindV (C.tt t) fun i => bindV (elemK i.k) fun e => bindV (C.tt e) fun j => if j.size = sz ∧ 0 ≤ lo ∧ lo ≤ xs.length then some (.d (.sl sz nl (xs.drop lo.toNat)), false) else none := by
  unfold evSlice
  rcases C.tt t with _ | ⟨tk, s1, b1, z1, c1, q1⟩
  · rfl
  · cases tk with
    | slice e =>
      show (match C.tt e with | some j => _ | none => none) = bindV (C.tt e) _
      rcases C.tt e with _ | j
      · rfl
      · simp only [bindV_some, Option.getD_none, Option.getD_some, Option.isSome_none, Bool.false_and, Int.toNat_natCast, List.take_length]
        by_cases h1 : j.size = sz
        · subst h1; by_cases h2 : 0 ≤ lo <;> by_cases h3 : lo ≤ xs.length <;> simp [h2, h3]
        · simp [nbeq_false h1, h1]
    | _ => rfl

theorem slice_sl2 (C : Ctx) (st : St) (t : Nat) (sz : Nat) (nl : Bool) (xs : List (List D)) (lo hi : Int) : evSlice C st t (.d (.sl sz nl xs)) lo (some hi) none =
    bindV (C.tt t) fun i => bindV (elemK i.k) fun e => bindV (C.tt e) fun j => if j.size = sz ∧ 0 ≤ lo ∧ lo ≤ hi ∧ hi ≤ xs.length then some (.d (.sl sz nl ((xs.take hi.toNat).drop lo.toNat)), false) else none := by
  unfold evSlice
  rcases C.tt t with _ | ⟨tk, s1, b1, z1, c1, q1⟩
  · rfl
  · cases tk with
    | slice e =>
      show (match C.tt e with | some j => _ | none => none) = bindV (C.tt e) _
      rcases C.tt e with _ | j
      · rfl
      · simp only [bindV_some, Option.getD_none, Option.getD_some, Option.isSome_none, Bool.false_and]
        by_cases h1 : j.size = sz
        · subst h1; by_cases h2 : 0 ≤ lo <;> by_cases h3 : lo ≤ hi <;> by_cases h4 : hi ≤ xs.length <;> simp [h2, h3, h4]
        · simp [nbeq_false h1, h1]
    | _ => rfl
attribute [simp] op_slice2 op_slice12 op_slice0 slice_nums2 slice_sl1 slice_sl2
end Go.VM
