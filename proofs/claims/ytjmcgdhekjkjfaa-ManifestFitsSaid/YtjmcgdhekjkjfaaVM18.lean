/- The machine over values: literals and new slices. -/
import Derived.Test.YtjmcgdhekjkjfaaVM17
set_option linter.unusedSimpArgs false
set_option linter.unusedVariables false
namespace Go.VM
open Go

variable {P : Program} {C : Ctx} {st st' : St} {a : Act} {w : World} {own : Own} {β : Nat → Option Nat}
variable {o : Oper} {next : Act → World → Prop} {Q : Exit → Act → World → Prop}

theorem fold_get (off : Nat) : ∀ (l : List Value) (k : Nat) (cells : Array Value), off + k + l.length ≤ cells.size → ∀ m : Nat,
    ((l.zipIdx k).foldl (fun cs (c : Value × Nat) => cs.setIfInBounds (off + c.2) c.1) cells)[m]? =
      if m < off + k then cells[m]? else if m < off + k + l.length then l[m - (off + k)]? else cells[m]?
  | [], k, cells, _, m => by simp; intros; omega
  | x :: l, k, cells, h, m => by
    simp only [List.zipIdx_cons, List.foldl_cons, List.length_cons] at h ⊢
    rw [fold_get off l (k + 1) _ (by simp; omega) m, Array.getElem?_setIfInBounds]
    by_cases h1 : m < off + k
    · rw [if_pos (by omega), if_neg (by omega), if_pos h1]
    · rw [if_neg h1]
      by_cases h2 : m = off + k
      · subst h2
        rw [if_pos (by omega), if_pos rfl, if_pos (by omega), if_pos (by omega)]
        simp
      · by_cases h3 : m < off + (k + 1) + l.length
        · rw [if_neg (by omega), if_pos h3, if_pos (by omega), show m - (off + k) = (m - (off + (k + 1))) + 1 by omega, List.getElem?_cons_succ]
        · rw [if_neg (by omega), if_neg h3, if_neg (by omega), if_neg (by omega)]

theorem fold_splice (off : Nat) (new cells : Array Value) (h : off + new.size ≤ cells.size) :
    new.zipIdx.foldl (fun cs (c, j) => cs.setIfInBounds (off + j) c) cells = (splice off new.toList cells.toList).toArray := by
  rw [← Array.foldl_toList, Array.toList_zipIdx]
  apply Array.ext_getElem?
  intro m
  have := fold_get off new.toList 0 cells (by simpa using h) m
  simp only [Nat.add_zero] at this
  rw [this]
  have h2 := splice_get off new.toList cells.toList (by simpa using h) m
  simp only [Array.getElem?_toList] at h2 ⊢
  rw [← h2]
  simp

/-- The parts of a literal, filled in. -/
theorem fill_sound {place : Nat → Option (Nat × Nat)} : ∀ {ps : List (Nat × Nat × V)} {parts : List (Nat × Value)} {cells : Array Value} {cs cs' : List V},
    ps.length = parts.length → (∀ (j off sz : Nat) (v : V), ps[j]? = some (off, sz, v) → ∃ i u, parts[j]? = some (i, u) ∧ place i = some (off, sz) ∧ RepV w own β u v) →
    RepL w own β cells cs → fillV cs ps = some cs' → ∃ cells', Instr.fill place cells parts = some cells' ∧ RepL w own β cells' cs' ∧ cells'.size = cells.size
  | [], parts, cells, cs, cs', hl, _, hc, h => by
    have : parts = [] := List.eq_nil_of_length_eq_zero (by simpa using hl.symm)
    subst this
    simp [fillV] at h; subst h
    exact ⟨cells, rfl, hc, rfl⟩
  | (off, sz, v) :: ps, [], _, _, _, hl, _, _, _ => by simp at hl
  | (off, sz, v) :: ps, (i, u) :: parts, cells, cs, cs', hl, hp, hc, h => by
    obtain ⟨i', u', h1, h2, h3⟩ := hp 0 off sz v rfl
    simp only [List.getElem?_cons_zero, Option.some.injEq, Prod.mk.injEq] at h1
    obtain ⟨rfl, rfl⟩ := h1
    simp only [fillV] at h
    split at h
    · rename_i new hnew
      have hnr := cellsV_sound h3 hnew
      cases hck : Nat.beq new.length sz && Nat.ble (off + sz) cs.length with
      | false => rw [hck] at h; cases h
      | true =>
        rw [hck] at h
        simp only [cond_true] at h
        rw [Bool.and_eq_true] at hck
        have e1 := Nat.eq_of_beq_eq_true hck.1
        have e2 := Nat.le_of_ble_eq_true hck.2
        have hs := hc.1
        have hns := hnr.1
        have hspl := hc.splice hnr (by omega : off + new.length ≤ cs.length)
        obtain ⟨cells', f1, f2, f3⟩ := fill_sound (ps := ps) (parts := parts) (by simpa using hl) (fun j off sz v hj => by
          obtain ⟨i, u, g1, g2, g3⟩ := hp (j + 1) off sz v (by simpa using hj)
          exact ⟨i, u, by simpa using g1, g2, g3⟩) hspl h
        refine ⟨cells', ?_, f2, ?_⟩
        · simp only [Instr.fill, h2]
          rw [fold_splice off u.cells cells (by omega)]
          have c1 : ¬ u.cells.size ≠ sz := by omega
          have c2 : ¬ off + u.cells.size > cells.size := by omega
          simp only [c1, c2, decide_false, Bool.or_self, Bool.false_eq_true, if_false]
          exact f1
        · rw [f3, hspl.1, splice_length _ _ _ (by omega), hs]
    · cases h

theorem partsAt_sound (T : TOk P C.tt) (R : Rel C st a w own β) {pl : Nat → Option (Nat × Nat)} : ∀ {l : List (Nat × Operand)} {ps : List (Nat × Nat × V)}, partsAt C st pl l = some ps →
    ps.length = l.length ∧ ∀ (j off sz : Nat) (v : V), ps[j]? = some (off, sz, v) → ∃ i x ft jt, l[j]? = some (i, x) ∧ pl i = some (off, ft) ∧ C.tt ft = some jt ∧ jt.size = sz ∧ RepV w own β (a.eval x) v
  | [], ps, h => by simp [partsAt] at h; subst h; exact ⟨rfl, fun j off sz v h => by simp at h⟩
  | (i, x) :: l, ps, h => by
    simp only [partsAt] at h
    split at h
    · rename_i off ft hpl
      split at h
      · rename_i jt v hjt hv
        split at h
        · rename_i r hr
          cases h
          obtain ⟨h1, h2⟩ := partsAt_sound T R hr
          refine ⟨by simp [h1], fun j off' sz v' hj => ?_⟩
          cases j with
          | zero =>
            simp only [List.getElem?_cons_zero, Option.some.injEq, Prod.mk.injEq] at hj
            obtain ⟨rfl, rfl, rfl⟩ := hj
            exact ⟨i, x, ft, jt, rfl, hpl, hjt, rfl, evO_sound R hv⟩
          | succ j => simpa using h2 j off' sz v' (by simpa using hj)
        · cases h
      · cases h
    · cases h

theorem repL_zero (T : TOk P C.tt) {t : Nat} {i : TI} (hi : C.tt t = some i) : ∃ z, (∀ w, (zeroValue t).run P w = .ok z w) ∧ RepL w own β z.cells (i.zero.map .d) ∧ z.cells.size = i.size := by
  obtain ⟨info, d, z, r⟩ := T.get hi
  obtain ⟨z1, z2⟩ := zcells_sound r.zc w own
  simp only [getD_toList, Array.length_toList] at z1 z2
  refine ⟨z, fun w => r.run_zero w, ⟨by simpa using z1, fun j hj => ?_, fun j x hx => ?_⟩, by rw [z1, r.zl]⟩
  · have : j < i.zero.length := by omega
    exact (z2 j i.zero[j] (by simp [this])).2
  · simp only [List.getElem?_map, Option.map_eq_some_iff] at hx
    obtain ⟨d, h3, rfl⟩ := hx
    exact .d _ _ (z2 j d h3).1

theorem map_parts (f : Operand → Value) (ps : Array (Nat × Operand)) : (ps.map fun (i, x) => (i, f x)).toList = ps.toList.map fun p => (p.1, f p.2) := by simp

theorem run_places : ∀ (l : List Field), (∀ f ∈ l, (P.info? f.type).isSome = true) →
    (l.mapM (fun f => do pure (f.offset, ← sizeOf f.type)) : Sem (List (Nat × Nat))).run P w = .ok (l.map fun f => (f.offset, P.cellsOf f.type)) w
  | [], _ => by simp
  | f :: l, h => by
    have h1 := h f (by simp)
    obtain ⟨i, hi⟩ := Option.isSome_iff_exists.1 h1
    have ih := run_places l (fun g hg => h g (by simp [hg]))
    rw [List.mapM_cons]
    simp only [Sem.run_bind, run_sizeOf w hi, Result.andThen_ok, Sem.run_pure, ih, List.map_cons]

theorem build_sound (T : TOk P C.tt) (R : Rel C st a w own β) {t : Nat} {parts : Array (Nat × Operand)} (hop : o.op = .build t parts) (hd : ∀ t, o.dst = some t → t < a.tmps.size) {slot : Option Nat}
    (h : evOp C slot o st = some st') (hn : Next C st w own β a.tmps.size st' next) : o.wp P a w next Q := by
  simp only [evOp, hop] at h
  split at h
  · rename_i v hv
    cases h
    unfold evBuild at hv
    split at hv
    · rename_i i hi
      obtain ⟨z, hz, hzr, hzs⟩ := repL_zero (w := w) (own := own) (β := β) T hi
      obtain ⟨info, ds, z', row⟩ := T.get hi
      split at hv
      · rename_i fs hk
        obtain ⟨gs, rfl, hgs, _⟩ := row.struct hk
        split at hv
        · rename_i ps hps
          split at hv
          · rename_i cs hcs
            cases hv
            obtain ⟨h1, h2⟩ := partsAt_sound T R hps
            have hpl : ∃ places : Array (Nat × Nat), (gs.mapM fun f => do pure (f.offset, ← sizeOf f.type) : Sem _).run P w = .ok places w ∧
                ∀ (i off ft : Nat) (jt : TI), fs[i]? = some (off, ft) → C.tt ft = some jt → places[i]? = some (off, jt.size) := by
              have hall : ∀ f ∈ gs.toList, (P.info? f.type).isSome = true := by
                have := row.fl
                simp only [fieldsOk, List.all_eq_true] at this
                exact this
              have hm := run_places (w := w) gs.toList hall
              refine ⟨(gs.toList.map fun f => (f.offset, P.cellsOf f.type)).toArray, ?_, fun i off ft jt h3 h4 => ?_⟩
              · rw [Array.mapM_eq_mapM_toList]
                simp only [Sem.run_map, hm, Result.andThen_ok]
              · rw [← hgs] at h3
                simp only [List.getElem?_map, Option.map_eq_some_iff] at h3
                obtain ⟨g, h5, h6⟩ := h3
                simp only [Prod.mk.injEq] at h6
                obtain ⟨info', ds', z'', row'⟩ := T.get h4
                rw [List.getElem?_toArray, List.getElem?_map, h5]
                simp [h6.1, h6.2, Program.cellsOf, row'.hinfo, row'.size]
            obtain ⟨places, hpr, hpg⟩ := hpl
            obtain ⟨cells', f1, f2, f3⟩ := fill_sound (place := (places[·]?)) (parts := parts.toList.map fun p => (p.1, a.eval p.2)) (by simpa using h1) (fun j off sz v hj => by
              obtain ⟨i, x, ft, jt, g1, g2, g3, g4, g5⟩ := h2 j off sz v hj
              refine ⟨i, a.eval x, by simp [g1], ?_, g5⟩
              rw [← g4]; exact hpg i off ft jt g2 g3) hzr hcs
            have hrun : (execOp a.eval o).run P w = .ok (.value (.agg cells')) w := by
              simp only [execOp, hop, Instr.build, Sem.run_bind, hz, row.run_und, Result.andThen_ok, hpr]
              rw [map_parts, f1]
              simp
            exact wp_value hrun (next_put R hd (mkAgg_sound f2) hn)
          · cases hv
        · cases hv
      · rename_i n e hk
        have := row.arr hk; subst this
        split at hv
        · rename_i j hj
          obtain ⟨info', ds', zz', row'⟩ := T.get hj
          split at hv
          · rename_i ps hps
            split at hv
            · rename_i cs hcs
              cases hv
              obtain ⟨h1, h2⟩ := partsAt_sound T R hps
              obtain ⟨cells', f1, f2, f3⟩ := fill_sound (place := fun i => some (i * j.size, j.size)) (parts := parts.toList.map fun p => (p.1, a.eval p.2)) (by simpa using h1) (fun jj off sz v hj' => by
                obtain ⟨i, x, ft, jt, g1, g2, g3, g4, g5⟩ := h2 jj off sz v hj'
                simp only [Option.some.injEq, Prod.mk.injEq] at g2
                obtain ⟨rfl, rfl⟩ := g2
                rw [hj] at g3; cases g3
                exact ⟨i, a.eval x, by simp [g1], by rw [g4], g5⟩) hzr hcs
              have hrun : (execOp a.eval o).run P w = .ok (.value (.agg cells')) w := by
                simp only [execOp, hop, Instr.build, Sem.run_bind, hz, row.run_und, Result.andThen_ok, row'.run_size]
                rw [map_parts, f1]
                simp
              exact wp_value hrun (next_put R hd (mkAgg_sound f2) hn)
            · cases hv
          · cases hv
        · cases hv
      · cases hv
    · cases hv
  · cases h

theorem rep_length {α : Type} (n : Nat) (l : List α) : (rep n l).length = n * l.length := by
  induction n with
  | zero => simp [rep]
  | succ n ih => simp [rep, ih, Nat.succ_mul]; omega

theorem rep_get {α : Type} : ∀ (n : Nat) (l : List α) (j : Nat), j < n * l.length → (rep n l)[j]? = l[j % l.length]?
  | 0, l, j, h => by simp at h
  | n + 1, l, j, h => by
    simp only [rep]
    rw [List.getElem?_append]
    by_cases h1 : j < l.length
    · rw [if_pos h1, Nat.mod_eq_of_lt h1]
    · rw [if_neg h1, rep_get n l _ (by rw [Nat.succ_mul] at h; omega), ← Nat.mod_eq_sub_mod (by omega)]

theorem rangeMap_getD (z : Array Value) (n j : Nat) (hj : j < n) : ((Array.range n).map (z[· % z.size]!)).getD j undef = z[j % z.size]! := by
  simp [Array.getD, hj]

theorem getBang (z : Array Value) {j : Nat} (h : j < z.size) : z[j]! = z.getD j undef := by
  simp [Array.getD, h, getElem!_pos]

/-- So many zero values in a row. -/
theorem repL_rep {z : Array Value} {zs : List V} {n : Nat} (h : RepL w own β z zs) (hpos : 0 < z.size) : RepL w own β ((Array.range (n * z.size)).map (z[· % z.size]!)) (rep n zs) := by
  have hs := h.1
  refine ⟨by simp [rep_length, hs], fun j hj => ?_, fun j x hx => ?_⟩
  · have hj' : j < n * z.size := by simpa using hj
    have hm := Nat.mod_lt j hpos
    rw [rangeMap_getD z _ j hj', getBang z hm]; exact h.2.1 _ hm
  · have hj : j < n * z.size := by
      have := (List.getElem?_eq_some_iff.1 hx).1
      rw [rep_length] at this; rw [hs]; exact this
    have hm := Nat.mod_lt j hpos
    rw [rep_get n zs j (by rw [← hs]; exact hj)] at hx
    rw [rangeMap_getD z _ j hj, getBang z hm]
    exact h.2.2 _ x (by rw [hs]; exact hx)

theorem chunk_flat {α : Type} {sz n : Nat} {l : List α} {i r : Nat} {c : List α} {x : α} (hl : l.length = n * sz) (h1 : (chunk sz n l)[i]? = some c) (h2 : c[r]? = some x) :
    r < sz ∧ i * sz + r < n * sz ∧ l[i * sz + r]? = some x := by
  obtain ⟨hi, hcc⟩ := chunk_get sz n l i c h1
  have hr : r < sz := by
    have := (List.getElem?_eq_some_iff.1 h2).1
    rw [hcc] at this; simp at this; omega
  have : (i + 1) * sz ≤ n * sz := Nat.mul_le_mul_right _ hi
  rw [Nat.succ_mul] at this
  refine ⟨hr, by omega, ?_⟩
  rw [hcc, List.getElem?_take, if_pos hr, List.getElem?_drop] at h2
  exact h2

/-- A new row that is nobody's, as a slice of data. -/
theorem rep_new_sl (R : Rel C st a w own β) {n sz : Nat} {arr : Array Value} {e : TypeId} {ds : List D} (hc : RepL w own β arr (ds.map .d)) (hl : ds.length = n * sz) (hm : n ≤ maxLen) :
    RepD (w.alloc (.cells arr e (0, 0))) own (.slice (some ⟨w.heap.size, 0, none⟩) n n) (.sl sz false (chunk sz n ds)) := by
  obtain ⟨R1, E1⟩ := R.allocFree (w' := w.alloc (.cells arr e (0, 0))) rfl rfl rfl rfl
  have hnew := heap_alloc_new w (.cells arr e (0, 0))
  have hs := hc.1
  simp at hs
  refine .sl sz _ 0 n n _ (fun i r => arr.getD (i * sz + r) undef) (chunk_length _ _ _) (Nat.le_refl _) hm (fun i c h => ?_) (fun i r c x h1 h2 => ?_) (fun i r c x h1 h2 => ?_)
  · obtain ⟨hi, hcc⟩ := chunk_get sz n ds i c h
    have : (i + 1) * sz ≤ n * sz := Nat.mul_le_mul_right _ hi
    rw [Nat.succ_mul] at this
    rw [hcc]; simp; omega
  · obtain ⟨h3, h4, h5⟩ := chunk_flat hl h1 h2
    rw [Nat.zero_add]
    have := fc_block hnew (own_fresh R) (j := i * sz + r) (by omega) (hc.2.1 _ (by omega))
    exact this
  · obtain ⟨h3, h4, h5⟩ := chunk_flat hl h1 h2
    exact inv_d ((hc.2.2 (i * sz + r) (.d x) (by simp [h5])).mono E1.sub E1.wide (fun _ _ h => h))

theorem buildSlice_sound (T : TOk P C.tt) (R : Rel C st a w own β) {t n : Nat} {parts : Array (Nat × Operand)} (hop : o.op = .buildSlice t n parts) (hd : ∀ t, o.dst = some t → t < a.tmps.size) {slot : Option Nat} (hs : SlotOk st slot)
    (h : evOp C slot o st = some st') (hn : Next C st w own β a.tmps.size st' next) : o.wp P a w next Q := by
  simp only [evOp, hop] at h
  split at h
  · rename_i cs j hlit
    unfold litCells at hlit
    split at hlit
    · rename_i e _ _ _ _ _ hti
      obtain ⟨info, ds, z', row⟩ := T.get hti
      have := row.slice rfl; subst this
      split at hlit
      · rename_i j' hj
        cases hck : Nat.ble (n * j'.size) 16777216 && Nat.blt 0 j'.size with
        | false => rw [hck] at hlit; cases hlit
        | true =>
        rw [hck] at hlit
        simp only [cond_true] at hlit
        rw [Bool.and_eq_true] at hck
        have hle := Nat.le_of_ble_eq_true hck.1
        have hpos : 0 < j'.size := by simpa [Nat.blt_eq] using hck.2
        split at hlit
        · rename_i ps hps
          split at hlit
          · rename_i cs' hcs
            cases hlit
            obtain ⟨z, hz, hzr, hzs⟩ := repL_zero (w := w) (own := own) (β := β) T hj
            obtain ⟨_, _, _, rowj⟩ := T.get hj
            obtain ⟨h1, h2⟩ := partsAt_sound T R hps
            have h0 := repL_rep (n := n) hzr (by omega)
            obtain ⟨cells', f1, f2, f3⟩ := fill_sound (place := fun i => some (i * j.size, j.size)) (parts := parts.toList.map fun p => (p.1, a.eval p.2)) (by simpa using h1) (fun jj off sz v hj' => by
              obtain ⟨i, x, ft, jt, g1, g2, g3, g4, g5⟩ := h2 jj off sz v hj'
              simp only [Option.some.injEq, Prod.mk.injEq] at g2
              obtain ⟨rfl, rfl⟩ := g2
              rw [hj] at g3; cases g3
              exact ⟨i, a.eval x, by simp [g1], by rw [g4], g5⟩) h0 hcs
            have hnm : n ≤ maxLen := by
              have : n * 1 ≤ n * j.size := Nat.mul_le_mul_left _ hpos
              unfold maxLen; omega
            have hsz : cells'.size = n * j.size := by rw [f3]; simp [hzs]
            have hrun : (execOp a.eval o).run P w = .ok (.value (.slice (some ⟨w.heap.size, 0, none⟩) n n)) (w.alloc (.cells cells' e (0, 0))) := by
              have c1 : ¬ n * j.size > 2 ^ 24 := by omega
              simp only [execOp, hop, Instr.buildSlice, Sem.run_bind, row.run_und, Result.andThen_ok, rowj.run_size, c1, if_false]
              by_cases c2 : n * j.size = 0
              · rw [map_parts]
                have e0 : n * z.cells.size = 0 := by rw [hzs]; exact c2
                have e1 : ((Array.range (n * z.cells.size)).map (z.cells[· % z.cells.size]!)) = #[]   := by rw [e0]; apply Array.eq_empty_of_size_eq_zero; simp
                rw [e1] at f1
                have e3 : ∀ f : Nat → Value, Array.map f (Array.range 0) = #[] := fun f => Array.eq_empty_of_size_eq_zero (by simp)
                simp [c2, e3, f1, newRow]
              · rw [map_parts]
                rw [hzs] at f1
                simp [c2, hz, f1, newRow, hzs]
            refine wp_value hrun ?_
            obtain ⟨R1, E1⟩ := R.allocFree (w' := w.alloc (.cells cells' e (0, 0))) rfl rfl rfl rfl
            have hnew := heap_alloc_new w (.cells cells' e (0, 0))
            have hex : ∀ (x : V) (p : Pl), OwnsAt (w.alloc (.cells cells' e (0, 0))) own p (.slice (some ⟨w.heap.size, 0, none⟩) n n) x := fun x p sz _ => .inr ⟨_, _, _, _, rfl, .inl rfl⟩
            split at h
            · rename_i _ k ns hk hns
              cases h
              have hall := allI_some hns
              rw [hk] at hall
              simp only at hall
              subst hall
              have hs1 : j.size = 1 := rowj.one hk
              refine next_own R1 hd (.d _ _ ?_) (fun _ p => hex _ p) (Next.of E1 (Nat.le_refl _) (fun _ _ _ h => h) hn)
              rw [hs1, Nat.mul_one] at hsz
              have hl := f2.1
              simp at hl
              refine .nums k _ 0 n n ns (by omega) (Nat.le_refl _) hnm (fun i x hx => ?_) (fun i x hx => ?_)
              · have := inv_int (f2.2.2 i (.d (.int k x)) (by simp [hx]))
                have hlt : i < cells'.size := by have := (List.getElem?_eq_some_iff.1 hx).1; omega
                have hf := fc_block hnew (own_fresh R) hlt (f2.2.1 _ hlt)
                rw [this.1] at hf
                rw [Nat.zero_add]; exact hf
              · exact (inv_int (f2.2.2 i (.d (.int k x)) (by simp [hx]))).2
            · cases h
            · rename_i ds hds _ _
              cases h
              have hds' := allD_some hds
              subst hds'
              have hl := f2.1
              simp at hl
              exact next_own R1 hd (.d _ _ (rep_new_sl R f2 (by omega) hnm)) (fun _ p => hex _ p) (Next.of E1 (Nat.le_refl _) (fun _ _ _ h => h) hn)
            · cases h
              have R2 := R.newB hs (B := .cells false cs) (arr := cells') (e := e) (fun own' β' hβ hsub ho =>
                .cells false cs cells' e hnew f2.1 f2.2.1 (fun j x hx => (f2.2.2 j x hx).mono hsub (wide_alloc w _) hβ) (by simpa using ho))
              have R3 := R2.put (d := o.dst) (x := .mu (st.new slot (.cells false cs)).1 0 n n j.size) (v := .slice (some ⟨w.heap.size, 0, none⟩) n n) hd
                (.mu _ _ _ _ _ w.heap.size _ (by simp [setβ]) rfl (Nat.le_refl _) hnm (fun _ => rfl) (fun _ => ⟨cells', e, hnew, by omega⟩))
              exact hn _ _ _ _ R3 (ext_alloc w own _ _ R.plain_lt) (fun i hi b hb => le_setβ (R.slotNone hs _) i b hb) (size_put a _ _)
          · cases hlit
        · cases hlit
      · cases hlit
    · cases hlit
  · cases h

end Go.VM
