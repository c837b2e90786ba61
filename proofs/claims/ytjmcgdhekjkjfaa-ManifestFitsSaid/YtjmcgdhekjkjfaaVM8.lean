/- The machine over values: reading and writing memory. -/
import Derived.Test.YtjmcgdhekjkjfaaVM7
set_option linter.unusedSimpArgs false
set_option linter.unusedVariables false
namespace Go.VM
open Go

variable {P : Program} {C : Ctx} {st st' : St} {a : Act} {w : World} {own : Own} {β : Nat → Option Nat}
variable {o : Oper} {next : Act → World → Prop} {Q : Exit → Act → World → Prop}

theorem RepC.val {b o : Nat} {cs : List D} (h : RepC w own b o cs) : ∃ val : Nat → Value, ∀ (j : Nat) (x : D), cs[j]? = some x → Fc w own b (o + j) (val j) ∧ RepD w own (val j) x := by
  have key : ∀ j : Nat, ∃ v : Value, ∀ x : D, cs[j]? = some x → Fc w own b (o + j) v ∧ RepD w own v x := by
    intro j
    cases hj : cs[j]? with
    | none => exact ⟨undef, fun x hx => by cases hx⟩
    | some x =>
      obtain ⟨v, h1, h2⟩ := h j x hj
      exact ⟨v, fun y hy => by cases hy; exact ⟨h1, h2⟩⟩
  exact ⟨fun j => (key j).choose, fun j x hx => (key j).choose_spec x hx⟩

/-- A variable's load: its cells, in a row. -/
theorem run_loadVar {t : Nat} {i : TI} {info : TypeInfo} {d : TypeDesc} {z : Value} (r : Row P t i info d z) {b off : Nat} (hg : i.isAgg = true) (f : Nat → Value)
    (h : ∀ j, j < i.size → w.cell? ⟨b, off + j, none⟩ = some (f j)) : (loadVar t ⟨b, off, none⟩).run P w = .ok (.agg ((List.range i.size).map f).toArray) w := by
  have := run_loadCells (P := P) w ⟨b, off, none⟩ i.size f (fun j hj => by rw [Addr.add_lit]; exact h j hj)
  simp [loadVar, r.run_isAgg, hg, r.run_size, this]

theorem run_loadVar1 {t : Nat} {i : TI} {info : TypeInfo} {d : TypeDesc} {z : Value} (r : Row P t i info d z) {b off : Nat} (hg : i.isAgg = false) {v : Value}
    (h : w.cell? ⟨b, off, none⟩ = some v) : (loadVar t ⟨b, off, none⟩).run P w = .ok v w := by
  simp [loadVar, r.run_isAgg, hg, h]

theorem cell_of_block {b : Nat} {arr : Array Value} {e : TypeId} (h : w.heap[b]? = some (.cells arr e (0, 0))) {j : Nat} (hj : j < arr.size) : w.cell? ⟨b, j, none⟩ = some (arr.getD j undef) := by
  simp [World.cell?, h, Array.getD, hj]

theorem getD_range (f : Nat → Value) {n j : Nat} (h : j < n) : (((List.range n).map f).toArray).getD j undef = f j := by
  simp [Array.getD, h]

/-- What a load brings, is told. -/
theorem load_rep (T : TOk P C.tt) (R : Rel C st a w own β) {t : Nat} {p : V} {v : V} (h : evLoad C st t p = some v) {pv : Value} (hp : RepV w own β pv p) :
    ∃ ad x, pv = .pointer (some ad) ∧ (loadVar t ad).run P w = .ok x w ∧ RepV w own β x v := by
  unfold evLoad at h
  split at h
  · cases h
  · rename_i i hi
    obtain ⟨info, d, z, r⟩ := T.get hi
    have data : ∀ (b off : Nat) (cs : List D), RepC w own b off cs → headD i cs = some v → ∃ x, (loadVar t ⟨b, off, none⟩).run P w = .ok x w ∧ RepV w own β x v := by
      intro b off cs hc hh
      obtain ⟨val, hv⟩ := hc.val
      unfold headD at hh
      cases hg : i.isAgg with
      | true =>
        rw [hg] at hh
        simp only [cond_true] at hh
        cases hl : Nat.ble i.size cs.length with
        | false => rw [hl] at hh; cases hh
        | true =>
          rw [hl] at hh
          simp only [cond_true, Option.some.injEq] at hh
          have hle := Nat.le_of_ble_eq_true hl
          have hget : ∀ j, j < i.size → ∃ y, cs[j]? = some y := fun j hj => ⟨cs[j]'(by omega), by simp⟩
          refine ⟨_, run_loadVar r hg val (fun j hj => ?_), ?_⟩
          · obtain ⟨y, hy⟩ := hget j hj
            exact (hv j y hy).1.cell
          · subst hh
            refine .d _ _ (.agg _ _ (by simp; omega) (fun j hj => ?_) (fun j y hy => ?_))
            · simp at hj
              obtain ⟨y, hy⟩ := hget j hj
              rw [getD_range val hj]; exact (hv j y hy).1.one
            · rw [List.getElem?_take] at hy
              split at hy
              · rename_i hj
                rw [getD_range val hj]; exact (hv j y hy).2
              · cases hy
      | false =>
        rw [hg] at hh
        simp only [cond_false] at hh
        cases cs with
        | nil => cases hh
        | cons y l =>
          simp only [Option.some.injEq] at hh
          subst hh
          have := hv 0 y rfl
          exact ⟨_, run_loadVar1 r hg (by simpa using this.1.cell), .d _ _ this.2⟩
    split at h
    · rename_i i' off
      obtain ⟨b, hb, rfl⟩ := inv_ptr hp
      split at h
      · rename_i fz cs hB
        obtain ⟨b', h1, h2⟩ := R.blocks _ _ hB
        rw [hb] at h1; cases h1
        cases h2 with | cells _ _ arr e hh hs h1 hr ho =>
        unfold headV at h
        cases hg : i.isAgg with
        | true =>
          rw [hg] at h
          simp only [cond_true] at h
          cases hl : Nat.ble i.size (cs.drop off).length with
          | false => rw [hl] at h; cases h
          | true =>
            rw [hl] at h
            simp only [cond_true, Option.some.injEq] at h
            have hle := Nat.le_of_ble_eq_true hl
            simp at hle
            · refine ⟨_, _, rfl, run_loadVar r hg (fun j => arr.getD (off + j) undef) (fun j hj => cell_of_block hh (by omega)), ?_⟩
              subst h
              refine mkAgg_sound ⟨by simp; omega, fun j hj => ?_, fun j y hy => ?_⟩
              · simp at hj
                rw [getD_range _ hj]; exact h1 _ (by omega)
              · rw [List.getElem?_take] at hy
                split at hy
                · rename_i hj
                  rw [getD_range _ hj]
                  rw [List.getElem?_drop] at hy
                  exact hr _ y hy
                · cases hy
        | false =>
          rw [hg] at h
          simp only [cond_false] at h
          split at h
          · rename_i y l hy
            simp only [Option.some.injEq] at h
            subst h
            have hy0 : cs[off]? = some y := by
              have : (cs.drop off)[0]? = some y := by rw [hy]; rfl
              rw [List.getElem?_drop] at this; simpa using this
            have hlt : off < cs.length := (List.getElem?_eq_some_iff.1 hy0).1
            exact ⟨_, _, rfl, run_loadVar1 r hg (cell_of_block hh (by omega)), hr _ y hy0⟩
          · cases h
      · rename_i fz k xs hB
        obtain ⟨b', h1, h2⟩ := R.blocks _ _ hB
        rw [hb] at h1; cases h1
        cases h2 with | ints _ _ _ arr e hh hs hr ho =>
        unfold headI at h
        cases hg : i.isAgg with
        | true =>
          rw [hg] at h
          simp only [cond_true] at h
          cases hl : Nat.ble i.size (xs.drop off).length with
          | false => rw [hl] at h; cases h
          | true =>
            rw [hl] at h
            simp only [cond_true, Option.some.injEq] at h
            have hle := Nat.le_of_ble_eq_true hl
            simp at hle
            · refine ⟨_, _, rfl, run_loadVar r hg (fun j => arr.getD (off + j) undef) (fun j hj => cell_of_block hh (by omega)), ?_⟩
              subst h
              have hget : ∀ j, j < i.size → ∃ y, xs[off + j]? = some y := fun j hj => ⟨xs[off + j]'(by omega), by simp⟩
              refine .d _ _ (.agg _ _ (by simp; omega) (fun j hj => ?_) (fun j y hy => ?_))
              · simp at hj
                obtain ⟨y, hy⟩ := hget j hj
                rw [getD_range _ hj, (hr _ y hy).1]; rfl
              · simp only [List.getElem?_map, Option.map_eq_some_iff] at hy
                obtain ⟨n, hn, rfl⟩ := hy
                rw [List.getElem?_take] at hn
                split at hn
                · rename_i hj
                  rw [List.getElem?_drop] at hn
                  rw [getD_range _ hj, (hr _ n hn).1]
                  exact .int _ _ (hr _ n hn).2
                · cases hn
        | false =>
          rw [hg] at h
          simp only [cond_false] at h
          split at h
          · rename_i y l hy
            simp only [Option.some.injEq] at h
            subst h
            have hy0 : xs[off]? = some y := by
              have : (xs.drop off)[0]? = some y := by rw [hy]; rfl
              rw [List.getElem?_drop] at this; simpa using this
            have hlt : off < xs.length := (List.getElem?_eq_some_iff.1 hy0).1
            refine ⟨_, _, rfl, run_loadVar1 r hg (cell_of_block hh (by omega)), ?_⟩
            rw [(hr _ y hy0).1]
            exact .d _ _ (.int _ _ (hr _ y hy0).2)
          · cases h
      · cases h
    · rename_i cs
      obtain ⟨b, off, rfl, hc⟩ := inv_fp hp
      obtain ⟨x, h1, h2⟩ := data b off cs hc h
      exact ⟨_, x, rfl, h1, h2⟩
    · rename_i g off
      cases hp
      split at h
      · rename_i cs hcs
        have hc := R.glob g cs hcs
        obtain ⟨x, h1, h2⟩ := data g off (cs.drop off) (fun j y hy => by
          rw [List.getElem?_drop] at hy
          have := hc (off + j) y hy
          simpa using this) h
        exact ⟨_, x, rfl, h1, h2⟩
      · cases h
    · cases h

/-- A slice that is loaded out of a block stands in its cell. -/
theorem load_cell (T : TOk P C.tt) (R : Rel C st a w own β) {t b off : Nat} {v : V} (h : evLoad C st t (.ptr b off) = some v) (hs : isSl v = true) {pb : Nat} (hb : β b = some pb) {x : Value}
    (hx : (loadVar t ⟨pb, off, none⟩).run P w = .ok x w) : ∃ fz cs, getB st b = some (.cells fz cs) ∧ cs[off]? = some v ∧ w.cell? ⟨pb, off, none⟩ = some x := by
  unfold evLoad at h
  split at h
  · cases h
  · rename_i i hi
    obtain ⟨info, d, z, r⟩ := T.get hi
    simp only at h
    split at h
    · rename_i fz cs hB
      obtain ⟨b', h1, h2⟩ := R.blocks _ _ hB
      rw [hb] at h1; cases h1
      cases h2 with | cells _ _ arr e hh hs' h1 hr ho =>
      unfold headV at h
      cases hg : i.isAgg with
      | true =>
        rw [hg] at h
        simp only [cond_true] at h
        cases hl : Nat.ble i.size (cs.drop off).length with
        | false => rw [hl] at h; cases h
        | true =>
          rw [hl] at h
          simp only [cond_true, Option.some.injEq] at h
          subst h
          unfold mkAgg at hs
          split at hs <;> cases hs
      | false =>
        rw [hg] at h
        simp only [cond_false] at h
        split at h
        · rename_i y l hy
          simp only [Option.some.injEq] at h
          subst h
          have hy0 : cs[off]? = some y := by
            have : (cs.drop off)[0]? = some y := by rw [hy]; rfl
            rw [List.getElem?_drop] at this; simpa using this
          have hlt : off < cs.length := (List.getElem?_eq_some_iff.1 hy0).1
          have hcell := cell_of_block hh (show off < arr.size by omega)
          rw [run_loadVar1 r hg hcell] at hx
          cases hx
          exact ⟨fz, cs, hB, hy0, hcell⟩
        · cases h
    · unfold headI at h
      cases hg : i.isAgg with
      | true =>
        rw [hg] at h
        simp only [cond_true] at h
        rename_i xs _
        cases hl : Nat.ble i.size (xs.drop off).length with
        | false => rw [hl] at h; cases h
        | true => rw [hl] at h; cases h; cases hs
      | false =>
        rw [hg] at h
        simp only [cond_false] at h
        split at h
        · cases h; cases hs
        · cases h
    · cases h

theorem load_sound (T : TOk P C.tt) (R : Rel C st a w own β) {t : Nat} {x : Operand} (hop : o.op = .load t x) (hd : ∀ t, o.dst = some t → t < a.tmps.size) {slot : Option Nat}
    (h : evOp C slot o st = some st') (hn : Next C st w own β a.tmps.size st' next) : o.wp P a w next Q := by
  simp only [evOp, hop] at h
  split at h
  · rename_i p hp
    split at h
    · rename_i v hv
      have hpr := evO_sound R hp
      obtain ⟨ad, y, hpv, hrun, hy⟩ := load_rep T R hv hpr
      have hr : (execOp a.eval o).run P w = .ok (.value y) w := by
        simp [execOp, hop, Instr.loadAt, Instr.sureAddr, hpv, hrun]
      refine wp_value hr ?_
      split at h
      · rename_i b off d hdst hlin
        cases h
        rw [Bool.and_eq_true] at hlin
        obtain ⟨pb, hpb, hpe⟩ := inv_ptr hpr
        rw [hpe] at hpv
        cases hpv
        obtain ⟨fz, cs, hB, hcs, hcell⟩ := load_cell T R hv hlin.2 hpb hrun
        have hdd := hd d hdst
        have R1 := R.put hd hy
        obtain ⟨own', R2, E2⟩ := R1.give (p := .b b off) (q := .t d) (by
          intro hp x' v' ⟨h1, h2⟩
          rw [hdst] at h1 h2 ⊢
          simp only [St.put, look_ins_same, Option.some.injEq] at h1
          rw [tmps_put_some, getD_set_same _ _ _ hdd] at h2
          subst h1
          exact ⟨fz, cs, pb, by rw [getB_put]; exact hB, hcs, hpb, by rw [h2]; exact hcell⟩) (fun i j h => by cases h)
        exact hn _ _ _ _ R2 E2 (fun _ _ _ h => h) (size_put a _ _)
      · cases h; exact next_put R hd hy hn
    · cases h
  · cases h

end Go.VM
