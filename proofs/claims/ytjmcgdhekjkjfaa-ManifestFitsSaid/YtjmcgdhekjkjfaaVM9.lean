/- The machine over values: stores. -/
import Derived.Test.YtjmcgdhekjkjfaaVM8
set_option linter.unusedSimpArgs false
set_option linter.unusedVariables false
namespace Go.VM
open Go

variable {P : Program} {C : Ctx} {st st' : St} {a : Act} {w : World} {own : Own} {β : Nat → Option Nat}
variable {o : Oper} {next : Act → World → Prop} {Q : Exit → Act → World → Prop}

theorem getB_setB {i : Nat} {B B' : Blk} (h : getB st i = some B) (j : Nat) : getB (st.setB i B') j = if j = i then some B' else getB st j := by
  have hl : i < st.blocks.length := by
    unfold getB at h
    split at h
    · rename_i h1; exact (List.getElem?_eq_some_iff.1 h1).1
    · cases h
  simp only [getB, St.setB, List.getElem?_set]
  by_cases e : i = j
  · subst e; simp [hl]
  · have e' : ¬ j = i := fun h => e h.symm
    simp [e, e']

theorem ext_setRow {b i : Nat} (ho : own b = some (.bl i, 0)) {arr arr' : Array Value} {e : TypeId} (hh : w.heap[b]? = some (.cells arr e (0, 0))) (hs : arr'.size = arr.size) :
    Ext w own (w.setRow b arr') own where
  os := rfl
  tape := rfl
  output := rfl
  size := by simp
  free c hc h := by
    have : c ≠ b := fun e => by rw [e, ho] at h; cases h
    exact ⟨setRow_other w b c arr' this, h⟩
  part c ow' n hc h := by
    refine ⟨fun p hp => ?_, fun ow'' n' h' => by rw [h] at h'; cases h'; exact Nat.le_refl _⟩
    by_cases e : c = b
    · subst e; rw [ho] at h; cases h; omega
    · exact cell_of_heap (setRow_other w b c arr' e) p
  wide c arr1 e1 h := by
    by_cases ec : c = b
    · subst ec
      rw [hh] at h
      cases h
      exact ⟨arr', setRow_heap w c arr arr' e (0, 0) hh, hs⟩
    · exact ⟨arr1, by rw [setRow_other w b c arr' ec]; exact h, rfl⟩
  far c n h := by
    have : c ≠ b := fun e => by rw [e, ho] at h; cases h
    exact ⟨setRow_other w b c arr' this, h⟩

/-- A block is written. -/
theorem Rel.write (R : Rel C st a w own β) {i b : Nat} {B B' : Blk} (hB : getB st i = some B) (hb : β i = some b) (ho : own b = some (.bl i, 0))
    {arr arr' : Array Value} {e : TypeId} (hh : w.heap[b]? = some (.cells arr e (0, 0))) (hs : arr'.size = arr.size)
    (hB' : Sub w own (w.setRow b arr') own → Wide w (w.setRow b arr') → BlkRel (w.setRow b arr') own β i b B')
    (hown : ∀ j, hasPl (.b i j) st.owns = true → ∀ x v, ValAt (st.setB i B') a (w.setRow b arr') β (.b i j) x v → ValAt st a w β (.b i j) x v) :
    Rel C (st.setB i B') a (w.setRow b arr') own β ∧ Ext w own (w.setRow b arr') own := by
  have E := ext_setRow ho hh hs
  have hg := fun j => getB_setB (B' := B') hB j
  have hlen : (st.setB i B').blocks.length = st.blocks.length := by simp [St.setB]
  have inj : ∀ j c B1, getB st j = some B1 → β j = some c → c = b → j = i := by
    intro j c B1 h1 h2 h3
    subst h3
    obtain ⟨c', h4, h5⟩ := R.blocks j B1 h1
    rw [h2] at h4; cases h4
    cases h5 with
    | cells fz _ _ _ _ _ _ _ h6 => rw [ho] at h6; cases fz <;> simp at h6; exact h6.symm
    | ints fz _ _ _ _ _ _ _ h6 => rw [ho] at h6; cases fz <;> simp at h6; exact h6.symm
  refine ⟨⟨R.defers, ?_, ?_, ?_, ?_, ?_, ?_, ?_, ?_⟩, E⟩
  · exact fun t x h => (R.tmps t x h).mono E.sub E.wide (fun _ _ h => h)
  · intro j B1 h
    rw [hg j] at h
    by_cases ej : j = i
    · subst ej
      rw [if_pos rfl] at h; cases h
      exact ⟨b, hb, hB' E.sub E.wide⟩
    · rw [if_neg ej] at h
      obtain ⟨c, h1, h2⟩ := R.blocks j B1 h
      have hne : c ≠ b := fun e => ej (inj j c B1 h h1 e)
      exact ⟨c, h1, h2.mono E.sub E.wide (fun _ _ h => h) (setRow_other w b c arr' hne) rfl⟩
  · intro j hj; rw [hlen] at hj; exact R.fresh j hj
  · intro j hj h
    rw [hlen] at hj
    rw [hg j] at h
    by_cases ej : j = i
    · rw [if_pos ej] at h; cases h
    · rw [if_neg ej] at h; exact R.gone j hj h
  · intro p hp x v hv
    have hp' : hasPl p st.owns = true := hp
    have hv' : ValAt st a w β p x v := by
      cases p with
      | t t => exact hv
      | c t j => exact hv
      | b k j =>
        by_cases ek : k = i
        · subst ek; exact hown j hp' x v hv
        · obtain ⟨fz, cs, c, h1, h2, h3, h4⟩ := hv
          rw [hg k, if_neg ek] at h1
          have hne : c ≠ b := fun e => ek (inj k c _ h1 h3 e)
          exact ⟨fz, cs, c, h1, h2, h3, by rw [← h4]; exact (cell_of_heap (setRow_other w b c arr' hne) j).symm⟩
    intro sz hsz
    rcases R.owns p hp' x v hv' sz hsz with h0 | ⟨c, off, len, cap, h1, h2⟩
    · exact .inl h0
    · refine .inr ⟨c, off, len, cap, h1, ?_⟩
      rcases h2 with h2 | ⟨h2, h3, arr1, e1, h4, h5⟩
      · exact .inl h2
      · obtain ⟨arr2, h6, h7⟩ := E.wide c arr1 e1 h4
        exact .inr ⟨h2, h3, arr2, e1, h6, h7.trans h5⟩
  · intro k j h
    obtain ⟨B1, h1⟩ := R.ob k j h
    rw [hg k]
    by_cases ek : k = i
    · exact ⟨B', by simp [ek]⟩
    · exact ⟨B1, by simp [ek, h1]⟩
  · intro c r h
    obtain ⟨arr1, e1, h1⟩ := R.plain c r h
    obtain ⟨arr2, h2, _⟩ := E.wide c arr1 e1 h1
    exact ⟨arr2, e1, h2⟩
  · exact fun g cs h => (R.glob g cs h).mono E.sub

theorem run_storeVar {t : Nat} {i : TI} {info : TypeInfo} {d : TypeDesc} {z : Value} (r : Row P t i info d z) {b off : Nat} {v : Value} (hz : v.cells.size = i.size)
    {arr : Array Value} {e : TypeId} (hh : w.heap[b]? = some (.cells arr e (0, 0))) (hl : off + v.cells.size ≤ arr.size) (h1 : ∀ (j : Nat), j < v.cells.size → (v.cells.getD j undef).oneCell' = true) :
    (storeVar t ⟨b, off, none⟩ v).run P w = .ok () (w.setRow b (arr.toList.take off ++ v.cells.toList ++ arr.toList.drop (off + v.cells.size)).toArray) := by
  have := run_storeCells_at P b off e v.cells.toList 0 arr w hh (by simpa using hl) (fun x hx => by
    obtain ⟨k, hk, rfl⟩ := List.mem_iff_getElem.1 hx
    have hk' : k < v.cells.size := by simpa using hk
    have := h1 k hk'
    simpa [Array.getD, hk'] using this)
  simp only [Nat.add_zero, Array.length_toList] at this
  simp [storeVar, r.run_size, hz, this]

theorem splice_get {α : Type} (off : Nat) (new cs : List α) (h : off + new.length ≤ cs.length) (j : Nat) :
    (splice off new cs)[j]? = if j < off then cs[j]? else if j < off + new.length then new[j - off]? else cs[j]? := by
  unfold splice
  rw [List.append_assoc, List.getElem?_append, List.length_take, Nat.min_eq_left (by omega)]
  by_cases h1 : j < off
  · simp [h1]
  · simp only [h1, if_false]
    rw [List.getElem?_append]
    by_cases h2 : j < off + new.length
    · have : j - off < new.length := by omega
      simp [h2, this]
    · have : ¬ j - off < new.length := by omega
      simp only [h2, this, if_false, List.getElem?_drop]
      congr 1; omega

theorem splice_length {α : Type} (off : Nat) (new cs : List α) (h : off + new.length ≤ cs.length) : (splice off new cs).length = cs.length := by
  simp [splice]; omega

theorem getD_splice (off : Nat) (new : List Value) (arr : Array Value) (h : off + new.length ≤ arr.size) (j : Nat) :
    ((splice off new arr.toList).toArray).getD j undef = if j < off then arr.getD j undef else if j < off + new.length then new.getD (j - off) undef else arr.getD j undef := by
  have := splice_get off new arr.toList (by simpa using h) j
  rw [← getD_toList, List.getD_eq_getElem?_getD, List.toList_toArray, this]
  split
  · rw [← getD_toList, List.getD_eq_getElem?_getD]
  · split
    · rw [List.getD_eq_getElem?_getD]
    · rw [← getD_toList, List.getD_eq_getElem?_getD]

/-- Cells spliced into a row. -/
theorem RepL.splice {arr new : Array Value} {cs ns : List V} {off : Nat} (h : RepL w own β arr cs) (hn : RepL w own β new ns) (hl : off + ns.length ≤ cs.length) :
    RepL w own β (VM.splice off new.toList arr.toList).toArray (VM.splice off ns cs) := by
  have e1 : new.toList.length = ns.length := by simpa using hn.1
  have hl' : off + new.toList.length ≤ arr.size := by rw [e1, h.1]; exact hl
  refine ⟨by simp [splice_length _ _ _ hl, splice_length off new.toList arr.toList (by simpa using hl'), h.1], fun j hj => ?_, fun j x hx => ?_⟩
  · rw [getD_splice _ _ _ hl']
    simp [splice_length off new.toList arr.toList (by simpa using hl')] at hj
    by_cases c1 : j < off
    · rw [if_pos c1]; exact h.2.1 j hj
    · rw [if_neg c1]
      by_cases c2 : j < off + new.toList.length
      · rw [if_pos c2, getD_toList]; exact hn.2.1 _ (by have := hn.1; omega)
      · rw [if_neg c2]; exact h.2.1 j hj
  · rw [splice_get _ _ _ hl] at hx
    rw [getD_splice _ _ _ hl', e1]
    split at hx
    · rename_i h1; rw [if_pos h1]; exact h.2.2 j x hx
    · rename_i h1
      rw [if_neg h1]
      split at hx
      · rename_i h2; rw [if_pos h2, getD_toList]; exact hn.2.2 _ x hx
      · rename_i h2; rw [if_neg h2]; exact h.2.2 j x hx

theorem allI_some {k : IntKind} : ∀ {l : List V} {ns : List Int}, allI k l = some ns → l = ns.map fun n => .d (.int k n)
  | [], ns, h => by simp [allI] at h; subst h; rfl
  | v :: l, ns, h => by
    unfold allI at h
    split at h
    · rename_i heq; cases heq
    · rename_i k' n l' heq
      cases heq
      cases hk : k == k' with
      | false => rw [hk] at h; cases h
      | true =>
        rw [hk] at h
        simp only [cond_true] at h
        have := eq_of_beq hk
        subst this
        split at h
        · rename_i ns' h'
          cases h
          simp [allI_some h']
        · cases h
    · cases h

theorem store_sound (T : TOk P C.tt) (R : Rel C st a w own β) {t : Nat} {x y : Operand} (hop : o.op = .store t x y) (hd : ∀ t, o.dst = some t → t < a.tmps.size) {slot : Option Nat}
    (h : evOp C slot o st = some st') (hn : Next C st w own β a.tmps.size st' next) : o.wp P a w next Q := by
  simp only [evOp, hop] at h
  split at h
  · rename_i p v hp hv
    split at h
    · rename_i st1 hst
      have hpr := evO_sound R hp
      have hvr := evO_sound R hv
      unfold evStore at hst
      split at hst
      · rename_i _ _ _ i b off new hi hnew
        obtain ⟨pb, hpb, hpe⟩ := inv_ptr hpr
        obtain ⟨info, d, z, r⟩ := T.get hi
        have hnr := cellsV_sound hvr hnew
        cases hl : Nat.beq new.length i.size with
        | false => rw [hl] at hst; cases hst
        | true =>
          rw [hl] at hst
          simp only [cond_true] at hst
          have hlen := Nat.eq_of_beq_eq_true hl
          have fin : ∀ {w1 : World}, (storeVar t ⟨pb, off, none⟩ (a.eval y)).run P w = .ok () w1 → Rel C st1 a w1 own β → Ext w own w1 own → st1.blocks.length = st.blocks.length →
              (∀ s, y = .tmp s → isSl v = true → ∀ x' v', ValAt st1 a w1 β (.b b off) x' v' → ValAt st1 a w1 β (.t s) x' v') → (∃ B, getB st1 b = some B) → o.wp P a w next Q := by
            intro w1 hrun R1 E1 hlen1 hcell hB1
            have hr : (execOp a.eval o).run P w = .ok .skip w1 := by
              simp [execOp, hop, Instr.storeAt, Instr.sureAddr, hpe, hrun]
            refine wp_nothing hr ?_
            split at h
            · rename_i _ _ _ b' off' s heq hsl
              cases heq
              cases h
              obtain ⟨own', R2, E2⟩ := R1.give (p := .t s) (q := .b b off) (fun h1 x' v' h2 => hcell s rfl hsl x' v' h2) (fun i j e => by cases e; exact hB1)
              have R3 := R2.put (d := o.dst) (x := .skip) (v := undef) (by exact hd) .skip
              exact hn _ _ _ _ R3 (E1.trans E2) (fun _ _ _ h => h) (size_put a _ _)
            · cases h
              have R3 := R1.put (d := o.dst) (x := .skip) (v := undef) (by exact hd) .skip
              exact hn _ _ _ _ R3 E1 (fun _ _ _ h => h) (size_put a _ _)
          split at hst
          · rename_i cs hB
            cases hfit : Nat.ble (off + new.length) cs.length with
            | false => rw [hfit] at hst; cases hst
            | true =>
              rw [hfit] at hst
              simp only [cond_true, Option.some.injEq] at hst
              have hle := Nat.le_of_ble_eq_true hfit
              obtain ⟨b', h1, h2⟩ := R.blocks _ _ hB
              rw [hpb] at h1; cases h1
              cases h2 with | cells _ _ arr e hh hs h1 hr ho =>
              have hsz : (a.eval y).cells.size = i.size := by rw [hnr.1]; exact hlen
              have hrun := run_storeVar r hsz hh (off := off) (by rw [hnr.1]; omega) hnr.2.1
              let f : Pl → Bool := fun | .b j o => Nat.beq b j && Nat.ble off o && Nat.blt o (off + new.length) | _ => false
              have Rd := R.disown f
              have hrl : RepL w own β arr cs := ⟨hs, h1, hr⟩
              have hspl := hrl.splice hnr hle
              have esz : (VM.splice off (a.eval y).cells.toList arr.toList).toArray.size = arr.size := by
                rw [hspl.1, splice_length _ _ _ hle, hs]
              obtain ⟨R1, E1⟩ := Rd.write (B' := .cells false (splice off new cs)) hB hpb (by simpa using ho) hh esz (fun hsub hwide =>
                .cells false _ _ e (setRow_heap w pb arr _ e (0, 0) hh) hspl.1 hspl.2.1 (fun j x hx => (hspl.2.2 j x hx).mono hsub hwide (fun _ _ h => h)) (by simpa using ho)) (by
                intro j hj x' v' hv'
                obtain ⟨fz', cs', c, g1, g2, g3, g4⟩ := hv'
                rw [getB_setB (st := st.disown f) hB, if_pos rfl] at g1
                simp only [Option.some.injEq, Blk.cells.injEq] at g1
                obtain ⟨rfl, rfl⟩ := g1
                rw [hpb] at g3; cases g3
                have hout : ¬ (off ≤ j ∧ j < off + new.length) := by
                  have := (hasPl_drop hj).2
                  intro hin
                  have e1 : Nat.ble off j = true := Nat.ble_eq_true_of_le hin.1
                  have e2 : Nat.blt j (off + new.length) = true := by simpa [Nat.blt_eq] using hin.2
                  have e3 : Nat.beq b b = true := Nat.beq_refl b
                  simp [f, e1, e2, e3] at this
                rw [splice_get _ _ _ hle] at g2
                have g2' : cs[j]? = some x' := by
                  split at g2
                  · exact g2
                  · split at g2
                    · omega
                    · exact g2
                have hj' : j < arr.size := by rw [hs]; exact (List.getElem?_eq_some_iff.1 g2').1
                have hcell := cell_of_block hh hj'
                have hcell' := cell_of_block (setRow_heap w pb arr (VM.splice off (a.eval y).cells.toList arr.toList).toArray e (0, 0) hh) (by rw [esz]; exact hj')
                rw [hcell'] at g4
                have e4 : (VM.splice off (a.eval y).cells.toList arr.toList).toArray.getD j undef = arr.getD j undef := by
                  rw [getD_splice _ _ _ (by rw [Array.length_toList, hnr.1]; omega), Array.length_toList, hnr.1]
                  split
                  · rfl
                  · split
                    · omega
                    · rfl
                rw [e4] at g4
                exact ⟨false, cs, pb, hB, g2', hpb, by rw [hcell]; exact g4⟩)
              have hst1 : st1 = { (st.disown f).setB b (.cells false (splice off new cs)) with owns := (st.disown f).owns } := by rw [← hst]; rfl
              have R1' : Rel C st1 a (w.setRow pb (VM.splice off (a.eval y).cells.toList arr.toList).toArray) own β := by rw [hst1]; exact R1
              have harr : (arr.toList.take off ++ (a.eval y).cells.toList ++ arr.toList.drop (off + (a.eval y).cells.size)).toArray = (VM.splice off (a.eval y).cells.toList arr.toList).toArray := by
                simp [VM.splice]
              rw [harr] at hrun
              have hgb : getB st1 b = some (.cells false (splice off new cs)) := by
                rw [hst1]
                have := getB_setB (st := st.disown f) (B' := .cells false (splice off new cs)) hB b
                rw [if_pos rfl] at this; exact this
              refine fin hrun R1' E1 (by rw [← hst]; simp [St.setB]) (fun s hs' hsl x' v' hv' => ?_) ⟨_, hgb⟩
              obtain ⟨fz', cs', c, g1, g2, g3, g4⟩ := hv'
              rw [hgb] at g1
              simp only [Option.some.injEq, Blk.cells.injEq] at g1
              obtain ⟨rfl, rfl⟩ := g1
              rw [hpb] at g3; cases g3
              have hnew1 : new = [v] := by
                unfold isSl at hsl
                split at hsl
                · simp [cellsV] at hnew; exact hnew.symm
                · simp [cellsV] at hnew; exact hnew.symm
                · cases hsl
              subst hnew1
              have hone : (a.eval y).cells = #[a.eval y] := by
                refine cells_of_one ?_
                unfold isSl at hsl
                split at hsl
                · exact one_of_rep (inv_d hvr) (fun cs e => by cases e)
                · exact one_of_rep (inv_d hvr) (fun cs e => by cases e)
                · cases hsl
              rw [splice_get _ _ _ hle] at g2
              simp at g2
              subst g2
              simp at hle
              have hcell' := cell_of_block (setRow_heap w pb arr (VM.splice off (a.eval y).cells.toList arr.toList).toArray e (0, 0) hh) (j := off) (by rw [esz]; omega)
              rw [hcell', getD_splice _ _ _ (by rw [hone]; simp; omega), hone] at g4
              simp at g4
              subst hs'
              refine ⟨?_, by rw [← g4]; rfl⟩
              rw [← hst]; exact hv
          · rename_i k xs hB
            split at hst
            · rename_i ns hns
              cases hfit : Nat.ble (off + ns.length) xs.length with
              | false => rw [hfit] at hst; cases hst
              | true =>
                rw [hfit] at hst
                simp only [cond_true, Option.some.injEq] at hst
                have hle := Nat.le_of_ble_eq_true hfit
                have hnew' := allI_some hns
                have hnl : new.length = ns.length := by rw [hnew']; simp
                obtain ⟨b', h1, h2⟩ := R.blocks _ _ hB
                rw [hpb] at h1; cases h1
                cases h2 with | ints _ _ _ arr e hh hs hr ho =>
                have hsz : (a.eval y).cells.size = i.size := by rw [hnr.1]; exact hlen
                have hrun := run_storeVar r hsz hh (off := off) (by rw [hnr.1]; omega) hnr.2.1
                have harr : (arr.toList.take off ++ (a.eval y).cells.toList ++ arr.toList.drop (off + (a.eval y).cells.size)).toArray = (VM.splice off (a.eval y).cells.toList arr.toList).toArray := by
                  simp [VM.splice]
                rw [harr] at hrun
                have esz : (VM.splice off (a.eval y).cells.toList arr.toList).toArray.size = arr.size := by
                  simp only [List.size_toArray]
                  rw [splice_length _ _ _ (by simp [hnr.1]; omega), Array.length_toList]
                have elen := splice_length off ns xs hle
                obtain ⟨R1, E1⟩ := R.write (B' := .ints false k (splice off ns xs)) hB hpb (by simpa using ho) hh esz (fun _ _ =>
                  .ints false k _ _ e (setRow_heap w pb arr _ e (0, 0) hh) (by rw [esz, elen, hs]) (fun j x hx => by
                    rw [splice_get _ _ _ hle] at hx
                    rw [getD_splice _ _ _ (by rw [Array.length_toList, hnr.1]; omega), Array.length_toList, hnr.1, hnl]
                    by_cases c1 : j < off
                    · rw [if_pos c1] at hx ⊢; exact hr j x hx
                    · rw [if_neg c1] at hx ⊢
                      by_cases c2 : j < off + ns.length
                      · rw [if_pos c2] at hx ⊢
                        rw [getD_toList]
                        have := hnr.2.2 (j - off) (.d (.int k x)) (by rw [hnew']; simp [hx])
                        exact inv_int this
                      · rw [if_neg c2] at hx ⊢; exact hr j x hx) (by simpa using ho)) (by
                  intro j hj x' v' hv'
                  obtain ⟨fz', cs', c, g1, g2, g3, g4⟩ := hv'
                  rw [getB_setB hB, if_pos rfl] at g1
                  cases g1)
                rw [hst] at R1
                have hgb : getB st1 b = some (.ints false k (splice off ns xs)) := by
                  rw [← hst, getB_setB hB, if_pos rfl]
                refine fin hrun R1 E1 (by rw [← hst]; simp [St.setB]) (fun s hs' hsl x' v' hv' => ?_) ⟨_, hgb⟩
                obtain ⟨fz', cs', c, g1, g2, g3, g4⟩ := hv'
                rw [hgb] at g1; cases g1
            · cases hst
          · cases hst
      · cases hst
    · cases h
  · cases h

end Go.VM
