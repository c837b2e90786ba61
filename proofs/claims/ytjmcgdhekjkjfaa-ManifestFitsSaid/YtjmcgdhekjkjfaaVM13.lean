/- The machine over values: operators and addresses, as operations. -/
import Derived.Test.YtjmcgdhekjkjfaaVM12
import Derived.Laws.Concat
set_option linter.unusedSimpArgs false
set_option linter.unusedVariables false
namespace Go.VM
open Go

variable {P : Program} {C : Ctx} {st st' : St} {a : Act} {w : World} {own : Own} {β : Nat → Option Nat}
variable {o : Oper} {next : Act → World → Prop} {Q : Exit → Act → World → Prop}

theorem litNil_sound {x : Operand} {t : Nat} {v : V} (_ : evO C st t x = some v) (h : litNil x = true) : a.eval x = .slice none 0 0 := litNil_eval h

/-- No number and no text. -/
def NotNum : Value → Prop
  | .int _ _ => False
  | .string _ => False
  | .float _ _ => False
  | .complex _ _ _ => False
  | _ => True

theorem binOp_eql {t : Nat} {u v : Value} {r : Bool} (h : (Op.equal t u v).run P w = .ok r w) (hn : NotNum u) : (binOp .eql t u v).run P w = .ok (.bool r) w := by
  cases u <;> first | exact hn.elim | (simp only [binOp]; simp [h])
theorem binOp_neq {t : Nat} {u v : Value} {r : Bool} (h : (Op.equal t u v).run P w = .ok r w) (hn : NotNum u) : (binOp .neq t u v).run P w = .ok (.bool (!r)) w := by
  cases u <;> first | exact hn.elim | (simp only [binOp]; simp [h])

theorem notNum_of {u : Value} {x : V} (h : RepV w own β u x) (h0 : x ≠ .any) (h1 : ∀ k n, x ≠ .d (.int k n)) (h2 : ∀ l, x ≠ .d (.str l)) : NotNum u := by
  cases h with
  | any => exact absurd rfl h0
  | skip => trivial
  | d v y h =>
    cases h with
    | int k n => exact absurd rfl (h1 k n)
    | str s l => exact absurd rfl (h2 l)
    | _ => trivial
  | _ => trivial

theorem evEq_any {t : Nat} {ox oy : Operand} {y : V} {r : Bool} (h : evEq C t ox oy .any y = some r) : litNil ox = true := by
  unfold evEq at h
  split at h
  · cases h
  · split at h
    · simp at h
    · simp at h
    · simp at h
    · cases hy : litNil oy with
      | true => rw [hy] at h; simp [nilOf] at h
      | false =>
        rw [hy] at h
        cases hx : litNil ox with
        | true => rfl
        | false => rw [hx] at h; cases h
    · simp [nilPtr] at h
    · simp at h
    · simp at h
    · simp at h
    · cases h

theorem evBin_sound (T : TOk P C.tt) {op : BinOp} {t : Nat} {ox oy : Operand} {x y : V} {r : D} {u v : Value} (hxr : RepV w own β u x) (hyr : RepV w own β v y)
    (hlx : litNil ox = true → u = .slice none 0 0) (hly : litNil oy = true → v = .slice none 0 0) (h : evBin C op t ox oy x y = some r) :
    ∃ z, (do eqGuard op t ox oy u v; binOp op t u v : Sem Value).run P w = .ok z w ∧ RepD w own z r := by
  unfold evBin at h
  split at h
  · rename_i k n k' m
    obtain ⟨rfl, hn⟩ := inv_int hxr
    obtain ⟨rfl, hm⟩ := inv_int hyr
    simp only [eqGuard_at_int, Sem.run_bind, Sem.run_pure, Result.andThen_ok]
    split at h
    · exact evShift_sound h hn
    · exact evShift_sound h hn
    · cases hk : k == k' with
      | false => rw [hk] at h; cases h
      | true =>
        rw [hk] at h
        have := eq_of_beq hk
        subst this
        exact evInt_sound h hn
  · rename_i p q
    obtain ⟨s, rfl, rfl, hs⟩ := inv_str hxr
    obtain ⟨s', rfl, rfl, hs'⟩ := inv_str hyr
    simp only [eqGuard_at_string, Sem.run_bind, Sem.run_pure, Result.andThen_ok]
    split at h
    · cases h; exact ⟨_, by simp [binOp, Op.stringOp, bytesI_inj], .bool _⟩
    · cases h; exact ⟨_, by simp [binOp, Op.stringOp, bytesI_inj], .bool _⟩
    · cases hl : decide ((bytesI s).length + (bytesI s').length ≤ maxStr) with
      | false => rw [hl] at h; cases h
      | true =>
        rw [hl] at h; cases h
        have hle := of_decide_eq_true hl
        have e1 : (bytesI s).length = s.size := by simp [bytesI]
        have e2 : (bytesI s').length = s'.size := by simp [bytesI]
        rw [e1, e2] at hle
        unfold maxStr at hle
        refine ⟨.string (s ++ s'), ?_, .str _ _ ?_ ?_⟩
        · have := run_string_add_sum (P := P) w s s' (by omega)
          simpa [binOp] using this
        · simp [bytesI, ByteArray.data_append]
        · simp only [List.length_append, e1, e2, maxLen]; omega
    · cases h
  · rename_i hni hns
    have hnn : ∀ r', evEq C t ox oy x y = some r' → NotNum u ∨ ((∃ k n, x = .d (.int k n)) ∨ ∃ l, x = .d (.str l)) := by
      intro r' he
      by_cases h0 : x = .any
      · subst h0
        rw [hlx (evEq_any he)]; exact .inl trivial
      · by_cases h1 : ∃ k n, x = .d (.int k n)
        · exact .inr (.inl h1)
        · by_cases h2 : ∃ l, x = .d (.str l)
          · exact .inr (.inr h2)
          · exact .inl (notNum_of hxr h0 (fun k n e => h1 ⟨k, n, e⟩) (fun l e => h2 ⟨l, e⟩))
    have hno : ∀ r', evEq C t ox oy x y = some r' → NotNum u := by
      intro r' he
      rcases hnn r' he with h | ⟨k, n, rfl⟩ | ⟨l, rfl⟩
      · exact h
      · unfold evEq at he
        split at he
        · cases he
        · split at he
          · simp at he
          · split at he
            · exact (hni _ _ _ _ rfl rfl).elim
            · cases he
          · simp at he
          · cases hy : litNil oy with
            | true => rw [hy] at he; simp [nilOf] at he
            | false =>
              rw [hy] at he
              cases hx : litNil ox with
              | true => rw [hlx hx]; trivial
              | false => rw [hx] at he; cases he
          · simp [nilPtr] at he
          · simp at he
          · simp at he
          · simp at he
          · cases he
      · unfold evEq at he
        split at he
        · cases he
        · split at he
          · simp at he
          · simp at he
          · split at he
            · exact (hns _ _ rfl rfl).elim
            · cases he
          · cases hy : litNil oy with
            | true => rw [hy] at he; simp [nilOf] at he
            | false =>
              rw [hy] at he
              cases hx : litNil ox with
              | true => rw [hlx hx]; trivial
              | false => rw [hx] at he; cases he
          · simp [nilPtr] at he
          · simp at he
          · simp at he
          · simp at he
          · cases he
    split at h
    · unfold yesB at h
      split at h
      · rename_i b hb
        cases h
        obtain ⟨h1, h2⟩ := evEq_sound T hxr hyr hlx hly hb
        exact ⟨_, by simp only [Sem.run_bind, h1, Result.andThen_ok]; exact binOp_eql h2 (hno _ hb), .bool _⟩
      · cases h
    · unfold notB at h
      split at h
      · rename_i b hb
        cases h
        obtain ⟨h1, h2⟩ := evEq_sound T hxr hyr hlx hly hb
        exact ⟨_, by simp only [Sem.run_bind, h1, Result.andThen_ok]; exact binOp_neq h2 (hno _ hb), .bool _⟩
      · cases h
    · cases h

theorem binOp_sound (T : TOk P C.tt) (R : Rel C st a w own β) {op : BinOp} {t u : Nat} {x y : Operand} (hop : o.op = .binOp op t x y u) (hd : ∀ t, o.dst = some t → t < a.tmps.size) {slot : Option Nat}
    (h : evOp C slot o st = some st') (hn : Next C st w own β a.tmps.size st' next) : o.wp P a w next Q := by
  simp only [evOp, hop] at h
  split at h
  · rename_i p q hp hq
    split at h
    · rename_i r hr
      cases h
      obtain ⟨z, h1, h2⟩ := evBin_sound (P := P) T (evO_sound R hp) (evO_sound R hq) litNil_eval litNil_eval hr
      have hrun : (execOp a.eval o).run P w = .ok (.value z) w := by
        simp only [execOp, hop]
        simp only [Sem.run_bind] at h1 ⊢
        rw [h1]; rfl
      exact wp_value hrun (next_put R hd (.d _ _ h2) hn)
    · cases h
  · cases h

theorem unOp_sound (R : Rel C st a w own β) {op : UnOp} {t : Nat} {x : Operand} (hop : o.op = .unOp op t x) (hd : ∀ t, o.dst = some t → t < a.tmps.size) {slot : Option Nat}
    (h : evOp C slot o st = some st') (hn : Next C st w own β a.tmps.size st' next) : o.wp P a w next Q := by
  simp only [evOp, hop] at h
  split at h
  · rename_i p hp
    have hpr := evO_sound R hp
    split at h
    · rename_i r hr
      cases h
      unfold evUn at hr
      split at hr
      · rename_i b
        cases hr
        have e := inv_bool hpr
        have hrun : (execOp a.eval o).run P w = .ok (.value (.bool (!b))) w := by simp [execOp, hop, e, Op.unary]
        exact wp_value hrun (next_put R hd (.d _ _ (.bool _)) hn)
      · rename_i k n
        cases hr
        obtain ⟨e, _⟩ := inv_int hpr
        have hrun : (execOp a.eval o).run P w = .ok (.value (.int k (k.wrap (0 - n)))) w := by simp [execOp, hop, e, Op.unary, Op.intArith]
        exact wp_value hrun (next_put R hd (.d _ _ (.int _ _ (wrap_wrap _ _))) hn)
      · rename_i k n
        obtain ⟨e, hw⟩ := inv_int hpr
        simp only [intBitsI] at hr
        cases hr
        have hrun : (execOp a.eval o).run P w = .ok (.value (.int k (k.wrap (BitVec.ofInt k.bits (if k.signed then -1 else k.max) ^^^ BitVec.ofInt k.bits n).toNat))) w := by simp [execOp, hop, e, Op.unary, Op.intBits]
        exact wp_value hrun (next_put R hd (.d _ _ (.int _ _ (wrap_wrap _ _))) hn)
      · cases hr
    · cases h
  · cases h

end Go.VM
