/- The machine over values: equations to reckon by, for rows of records. -/
import Derived.Test.YtjmcgdhekjkjfaaVM42
set_option linter.unusedSimpArgs false
set_option linter.unusedVariables false
namespace Go.VM
open Go

theorem append_sl (C : Ctx) (st : St) (t : Nat) (own : Bool) (sz : Nat) (nl : Bool) (xs : List (List D)) (s : V) : evAppend C st t own (.d (.sl sz nl xs)) s =
    bindV (C.tt t) fun i => bindV (elemK i.k) fun e => bindV (C.tt e) fun j => condE ((own || nl) && decide (j.size = sz) && decide (0 < sz)) (bindV (srcSl st sz s) fun ys =>
      if (xs.length + ys.length) * j.bytes ≤ room ∧ xs.length + ys.length ≤ room then some (.sl sz (nl && ys.isEmpty) (xs ++ ys)) else none) none := by
  unfold evAppend
  rcases C.tt t with _ | ⟨tk, s1, b1, z1, c1, q1⟩
  · rfl
  · cases tk with
    | slice e =>
      show (match C.tt e with | some j => _ | none => none) = bindV (C.tt e) _
      rcases C.tt e with _ | j
      · rfl
      · show (bif (own || nl) && Nat.beq j.size sz && Nat.blt 0 sz then _ else none) = condE ((own || nl) && decide (j.size = sz) && decide (0 < sz)) _ none
        rw [← nbeq_dec, ← nblt_dec]
        unfold condE
        congr 1
        show (match srcSl st sz s with | some ys => _ | none => none) = bindV (srcSl st sz s) _
        rcases srcSl st sz s with _ | ys
        · rfl
        · show (bif decide ((xs.length + ys.length) * j.bytes ≤ room) && decide (xs.length + ys.length ≤ room) then _ else none) = if _ then _ else none
          by_cases h1 : (xs.length + ys.length) * j.bytes ≤ room
          · by_cases h2 : xs.length + ys.length ≤ room
            · simp [-room, h1, h2]
            · simp [-room, h1, h2]
          · simp [-room, h1]
    | _ => rfl
theorem srcSl_sl (st : St) (sz : Nat) (nl : Bool) (xs : List (List D)) : srcSl st sz (.d (.sl sz nl xs)) = some xs := by
  show (bif Nat.beq sz sz then some xs else none) = some xs
  simp
theorem argV_agg (C : Ctx) (st : St) (cs : List V) (h : refsL cs = []) : argV C st (.agg cs) = some (.agg cs, st) := by
  show (match refsL cs with | [] => some (V.agg cs, st) | _ => none) = _
  rw [h]
theorem refs_any : refs .any = [] := (rfl)
theorem refs_agg (cs : List V) : refs (.agg cs) = refsL cs := (rfl)
theorem callee_tmp (st : St) (t : Nat) : calleeOf st (.tmp t) = (match look t st.tmps with | some (.fn g cs) => some (g, cs) | _ => none) := (rfl)
theorem op_callT (C : Ctx) (slot : Option Nat) (dst : Option Tmp) (ty : TypeId) (pos : String) (af : Array Edge) (g : Option (Nat × Bool)) (st : St) (t : Nat) (as : Array Operand) (ts : Array TypeId) :
    evOp C slot ⟨dst, .call { callee := .value (.tmp t), args := as, argTypes := ts }, ty, pos, af, g⟩ st =
      bindV (calleeOf st (.tmp t)) fun f => bindV (evArgs C st as.toList ts.toList) fun r => callWith C r.2 f.1 (r.1 ++ f.2) dst := by
  show (match calleeOf st (.tmp t) with
    | some (g, caps) => (match evArgs C st as.toList ts.toList with
        | some (vs, st) => callWith C st g (vs ++ caps) dst
        | none => none)
    | none => none) = _
  rcases calleeOf st (.tmp t) with _ | ⟨f, caps⟩
  · rfl
  · simp only [bindV_some]
    rcases evArgs C st as.toList ts.toList with _ | ⟨vs, s⟩ <;> rfl
theorem op_box (C : Ctx) (slot : Option Nat) (dst : Option Tmp) (ty : TypeId) (pos : String) (af : Array Edge) (g : Option (Nat × Bool)) (st : St) (e : TypeId) (x : Operand) :
    evOp C slot ⟨dst, .box e x, ty, pos, af, g⟩ st = bindV (evO C st e x) fun v => bindV (cellsV v) fun cs => some ((st.new slot (.cells false cs)).2.put dst (.ptr (st.new slot (.cells false cs)).1 0)) := by
  show (match evO C st e x with
    | some v => (match cellsV v with
      | some cs => some ((st.new slot (.cells false cs)).2.put dst (.ptr (st.new slot (.cells false cs)).1 0))
      | none => none)
    | none => none) = _
  rcases evO C st e x with _ | v
  · rfl
  · simp only [bindV_some]
    rcases cellsV v with _ | cs <;> rfl
theorem new_none (l : List (Nat × V)) (bs : List (Option Blk)) (os : List Pl) (B : Blk) : St.new ⟨l, bs, os⟩ none B = (bs.length, ⟨l, bs ++ [some B], os⟩) := (rfl)
theorem new_some (l : List (Nat × V)) (bs : List (Option Blk)) (os : List Pl) (i : Nat) (B : Blk) : St.new ⟨l, bs, os⟩ (some i) B = (i, ⟨l, bs.set i (some B), os⟩) := (rfl)
theorem getB_mk (l : List (Nat × V)) (bs : List (Option Blk)) (os : List Pl) (i : Nat) : getB ⟨l, bs, os⟩ i = (match bs[i]? with | some (some b) => some b | _ => none) := (rfl)
theorem mkAgg_eq (cs : List V) : mkAgg cs = (match allD cs with | some ds => .d (.agg ds) | none => .agg cs) := (rfl)
theorem ldB_cells (i : TI) (off : Nat) (fz : Bool) (cs : List V) : ldB i off (some (.cells fz cs)) = headV i (cs.drop off) := (rfl)
theorem ldB_ints (i : TI) (off : Nat) (fz : Bool) (k : IntKind) (xs : List Int) : ldB i off (some (.ints fz k xs)) = headI i k (xs.drop off) := (rfl)
/-- What a store makes of a state. -/
def stB (st : St) (b off : Nat) (new : List V) : Option Blk → Option St
  | some (.cells false cs) => if off + new.length ≤ cs.length then
      some { tmps := st.tmps, blocks := st.blocks.set b (some (.cells false (splice off new cs))), owns := dropPl (fun | .b j o => Nat.beq b j && Nat.ble off o && Nat.blt o (off + new.length) | _ => false) st.owns } else none
  | some (.ints false k xs) => bindV (allI k new) fun ns => if off + ns.length ≤ xs.length then some { tmps := st.tmps, blocks := st.blocks.set b (some (.ints false k (splice off ns xs))), owns := st.owns } else none
  | _ => none
theorem store_ptr (C : Ctx) (st : St) (t b off : Nat) (v : V) : evStore C st t (.ptr b off) v = bindV (C.tt t) fun i => bindV (cellsV v) fun new => condE (decide (new.length = i.size)) (stB st b off new (getB st b)) none := by
  unfold evStore
  rcases C.tt t with _ | i
  · rfl
  · rcases cellsV v with _ | new
    · rfl
    · simp only [bindV_some]
      rw [← nbeq_dec]
      cases Nat.beq new.length i.size with
      | false => rfl
      | true =>
        simp only [cond_true, condE_true]
        rcases getB st b with _ | B
        · rfl
        · cases B with
          | cells fz cs =>
            cases fz with
            | true => rfl
            | false =>
              simp only [stB]
              by_cases h : off + new.length ≤ cs.length
              · rw [if_pos h, show Nat.ble (off + new.length) cs.length = true from by simpa [Nat.ble_eq] using h]; rfl
              · rw [if_neg h]
                have : Nat.ble (off + new.length) cs.length = false := by
                  cases e : Nat.ble (off + new.length) cs.length with
                  | false => rfl
                  | true => exact absurd (by simpa [Nat.ble_eq] using e) h
                rw [this]; rfl
          | ints fz k xs =>
            cases fz with
            | true => rfl
            | false =>
              simp only [stB]
              rcases allI k new with _ | ns
              · rfl
              · simp only [bindV_some]
                by_cases h : off + ns.length ≤ xs.length
                · rw [if_pos h, show Nat.ble (off + ns.length) xs.length = true from by simpa [Nat.ble_eq] using h]; rfl
                · rw [if_neg h]
                  have : Nat.ble (off + ns.length) xs.length = false := by
                    cases e : Nat.ble (off + ns.length) xs.length with
                    | false => rfl
                    | true => exact absurd (by simpa [Nat.ble_eq] using e) h
                  rw [this]; rfl
attribute [simp] ldB_cells ldB_ints stB store_ptr new_none new_some getB_mk mkAgg_eq op_box append_sl srcSl_sl argV_agg refs_any refs_agg callee_tmp op_callT
end Go.VM
