/- The machine over values: what is made with a length, and the builtins. -/
import Derived.Test.YtjmcgdhekjkjfaaVM18
set_option linter.unusedSimpArgs false
set_option linter.unusedVariables false
namespace Go.VM
open Go

variable {P : Program} {C : Ctx} {st st' : St} {a : Act} {w : World} {own : Own} {β : Nat → Option Nat}
variable {o : Oper} {next : Act → World → Prop} {Q : Exit → Act → World → Prop}

theorem wrap_i64_of {n : Int} (h0 : 0 ≤ n) (h1 : n ≤ 9223372036854775807) : IntKind.i64.wrap n = n := by
  rw [wrap_iff]; simp [IntKind.min, IntKind.max, IntKind.signed, IntKind.bits]; omega

theorem makeSlice_sound (T : TOk P C.tt) (R : Rel C st a w own β) {t : Nat} {l c : Operand} (hop : o.op = .makeSlice t l c) (hd : ∀ t, o.dst = some t → t < a.tmps.size) {slot : Option Nat} (hs : SlotOk st slot)
    (h : evOp C slot o st = some st') (hn : Next C st w own β a.tmps.size st' next) : o.wp P a w next Q := by
  simp only [evOp, hop] at h
  split at h
  · rename_i k n k' m hl hc
    obtain ⟨hle, _⟩ := inv_int (evO_sound R hl)
    obtain ⟨hce, _⟩ := inv_int (evO_sound R hc)
    split at h
    · rename_i hnm
      have : n = m := eq_of_beq hnm
      subst this
      split at h
      · rename_i v st1 hmk
        cases h
        unfold evMake at hmk
        split at hmk
        · rename_i e _ _ _ _ _ hti
          obtain ⟨info, ds, z', row⟩ := T.get hti
          have := row.slice rfl; subst this
          split at hmk
          · rename_i j hj
            obtain ⟨info', ds', z'', rowj⟩ := T.get hj
            cases hck : decide (0 ≤ n) && decide (n ≤ 9223372036854775807) && decide ((j.bytes : Int) * n ≤ 281474976710656) && Nat.blt 0 j.size with
            | false => rw [hck] at hmk; cases hmk
            | true =>
            rw [hck] at hmk
            simp only [cond_true] at hmk
            simp only [Bool.and_eq_true, decide_eq_true_eq] at hck
            obtain ⟨⟨⟨h0, h1⟩, h2⟩, h3⟩ := hck
            have hpos : 0 < j.size := by simpa [Nat.blt_eq] using h3
            obtain ⟨z, hz, hzr, hzs⟩ := repL_zero (w := w) (own := own) (β := β) T hj
            obtain ⟨A, hA⟩ : ∃ A : Array Value, A = (Array.range (n.toNat * j.size)).map (fun i => z.cells[i % z.cells.size]!) := ⟨_, rfl⟩
            have hA' : A = (Array.range (n.toNat * z.cells.size)).map (fun i => z.cells[i % z.cells.size]!) := by rw [hA]; congr 2; rw [hzs]
            have h0' : RepL w own β A (rep n.toNat (j.zero.map .d)) := by rw [hA']; exact repL_rep (n := n.toNat) hzr (by omega)
            have hAs : A.size = n.toNat * j.size := by rw [hA]; simp
            have hw := wrap_i64_of h0 h1
            have hnm : n.toNat ≤ maxLen := by unfold maxLen; omega
            have hrun : (execOp a.eval o).run P w = .ok (.value (.slice (some ⟨w.heap.size, 0, none⟩) n.toNat n.toNat)) (w.alloc (.cells A e (0, 0))) := by
              have c1 : ¬ n < 0 := by omega
              have c2 : ¬ 281474976710656 < (info'.bytes : Int) * n := by rw [rowj.bytes]; omega
              simp only [execOp, hop, Instr.makeSlice, Sem.run_bind, row.run_und, Result.andThen_ok, hle, hce, asInt, asIntOf, Sem.run_pure, rowj.run_info, hw]
              by_cases c3 : n.toNat * j.size = 0
              · have e3 : ∀ f : Nat → Value, Array.map f (Array.range 0) = #[] := fun f => Array.eq_empty_of_size_eq_zero (by simp)
                have e4 : A = #[] := by rw [hA, c3]; exact e3 _
                rw [e4]
                simp [c1, c2, c3, e3, rowj.run_size, newRow]
              · simp [c1, c2, c3, hz, rowj.run_size, newRow, hA]
            refine wp_value hrun ?_
            have hnew := heap_alloc_new w (.cells A e (0, 0))
            split at hmk
            · rename_i k hk
              cases hmk
              have hs1 : j.size = 1 := rowj.one hk
              have hd1 := rowj.int hk
              have R2 := R.newB hs (B := .ints false k (List.replicate n.toNat 0)) (arr := A) (e := e) (fun own' β' hβ hsub ho =>
                .ints false k _ _ e hnew (by simp [hAs, hs1]) (fun i x hx => by
                  have hx' : x = 0 ∧ i < n.toNat := by
                    rw [List.getElem?_replicate] at hx
                    split at hx
                    · exact ⟨by cases hx; rfl, by assumption⟩
                    · cases hx
                  obtain ⟨rfl, hlt⟩ := hx'
                  rw [hA', rangeMap_getD _ _ _ (by rw [hzs, hs1]; omega)]
                  have em : i % z.cells.size = 0 := by rw [hzs, hs1, Nat.mod_one]
                  rw [em]
                  have hz0 : (z.cells.getD 0 undef) = .int k 0 := by
                    have e := hz w
                    rw [rowj.run_zero] at e
                    cases e
                    exact rowj.zeroInt hk
                  rw [getBang _ (by omega), hz0]
                  exact ⟨rfl, by cases k <;> rfl⟩) (by simpa using ho))
              have R3 := R2.put (d := o.dst) (x := .mu (st.new slot (.ints false k (List.replicate n.toNat 0))).1 0 n.toNat n.toNat 1) (v := .slice (some ⟨w.heap.size, 0, none⟩) n.toNat n.toNat) hd
                (.mu _ _ _ _ _ w.heap.size _ (by simp [setβ]) rfl (Nat.le_refl _) hnm (fun _ => rfl) (fun _ => ⟨_, e, hnew, by rw [hAs, hs1]; simp⟩))
              exact hn _ _ _ _ R3 (ext_alloc w own _ _ R.plain_lt) (fun i hi b hb => le_setβ (R.slotNone hs _) i b hb) (size_put a _ _)
            · cases hmk
              have R2 := R.newB hs (B := .cells false (rep n.toNat (j.zero.map .d))) (arr := A) (e := e) (fun own' β' hβ hsub ho =>
                .cells false _ _ e hnew h0'.1 h0'.2.1 (fun j x hx => (h0'.2.2 j x hx).mono hsub (wide_alloc w _) hβ) (by simpa using ho))
              have R3 := R2.put (d := o.dst) (x := .mu (st.new slot (.cells false (rep n.toNat (j.zero.map .d)))).1 0 n.toNat n.toNat j.size) (v := .slice (some ⟨w.heap.size, 0, none⟩) n.toNat n.toNat) hd
                (.mu _ _ _ _ _ w.heap.size _ (by simp [setβ]) rfl (Nat.le_refl _) hnm (fun _ => rfl) (fun _ => ⟨_, e, hnew, by rw [hAs]; simp⟩))
              exact hn _ _ _ _ R3 (ext_alloc w own _ _ R.plain_lt) (fun i hi b hb => le_setβ (R.slotNone hs _) i b hb) (size_put a _ _)
          · cases hmk
        · cases hmk
      · cases h
    · cases h
  · cases h

end Go.VM
