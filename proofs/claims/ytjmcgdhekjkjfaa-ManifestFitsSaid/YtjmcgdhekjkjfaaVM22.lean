/- The machine over values: the builtins, all. -/
import Derived.Test.YtjmcgdhekjkjfaaVM21
set_option linter.unusedSimpArgs false
set_option linter.unusedVariables false
namespace Go.VM
open Go

variable {P : Program} {C : Ctx} {st st' : St} {a : Act} {w : World} {own : Own} {β : Nat → Option Nat}
variable {o : Oper} {next : Act → World → Prop} {Q : Exit → Act → World → Prop}

theorem rep_goInt (w : World) (own : Own) (β : Nat → Option Nat) {n : Nat} (h : n ≤ maxLen) : RepV w own β (goInt n) (.d (.int .i64 n)) :=
  .d _ _ (.int _ _ (wrap_i64_nat h))

theorem len_val (T : TOk P C.tt) {t n : Nat} {x : V} {v : Value} (hv : RepV w own β v x) (h : lenV C t x = some n) :
    (Builtin.len_ #[t] o.type #[v]).run P w = .ok (goInt n) w ∧ n ≤ maxLen := by
  unfold lenV at h
  split at h
  · cases h
  · rename_i i hi
    obtain ⟨info, d, z, r⟩ := T.get hi
    split at h
    · rename_i hk
      cases h
      obtain ⟨s, rfl, hs, hl⟩ := inv_str hv
      have hd := r.str hk; subst hd
      subst hs
      refine ⟨?_, hl⟩
      simp [Builtin.len_, r.run_und, bytesI]
    · rename_i hk
      cases h
      have hd := r.slice hk; subst hd
      cases hv with
      | d _ _ hv => cases hv with
        | numsNil k => exact ⟨by simp [Builtin.len_, r.run_und], by simp⟩
        | nums k b o' len cap xs hl hc hm h hw => subst hl; exact ⟨by simp [Builtin.len_, r.run_und], by omega⟩
    · rename_i hk
      cases h
      have hd := r.slice hk; subst hd
      cases hv with
      | d _ _ hv => cases hv with
        | slNil k => exact ⟨by simp [Builtin.len_, r.run_und], by simp⟩
        | sl _ b o' len cap xs _ hl hc hm h hw => subst hl; exact ⟨by simp [Builtin.len_, r.run_und], by omega⟩
    · rename_i hk
      cases h
      have hd := r.slice hk; subst hd
      cases hv with
      | mu _ _ _ _ _ b aa hβ hs hc hm ha hb => exact ⟨by simp [Builtin.len_, r.run_und], by omega⟩
    · rename_i hk
      rename_i _ n' e
      cases hle : Nat.ble n' 1000000 with
      | false => rw [hle] at h; cases h
      | true =>
        rw [hle] at h
        cases h
        have hle := Nat.le_of_ble_eq_true hle
        have hd := r.arr hk; subst hd
        exact ⟨by simp [Builtin.len_, r.run_und], by unfold maxLen; omega⟩
    · cases h

theorem builtin_sound (T : TOk P C.tt) (R : Rel C st a w own β) {c : Call} {b : Builtin} (hop : o.op = .call c) (hc : c.callee = .builtin b)
    (hd : ∀ t, o.dst = some t → t < a.tmps.size) (h : evBuiltin C st o.dst b c.args.toList c.argTypes.toList = some st')
    (hn : Next C st w own β a.tmps.size st' next) : o.wp P a w next Q := by
  obtain ⟨callee, ⟨args⟩, ⟨tys⟩⟩ := c
  simp only at hc h
  subst hc
  have h0 := h
  unfold evBuiltin at h
  split at h
  · rename_i x t
    split at h
    · rename_i v hv
      split at h
      · rename_i n hl
        cases h
        obtain ⟨h1, h2⟩ := len_val (o := o) T (evO_sound R hv) hl
        refine wp_value (v := goInt n) (w' := w) ?_ (next_put R hd (rep_goInt w own β h2) hn)
        simp only [execOp, hop, resolve, Sem.run_bind, invoke, builtin]
        simp [h1]
      · cases h
    · cases h
  · rename_i x y ts
    split at h
    · rename_i k n k' m hx hy
      split at h
      · rename_i hk
        have hk := eq_of_beq hk
        subst hk
        cases h
        obtain ⟨e1, w1⟩ := inv_int (evO_sound R hx)
        obtain ⟨e2, w2⟩ := inv_int (evO_sound R hy)
        refine wp_value (v := .int k (minI n m)) (w' := w) ?_ (next_put R hd (.d _ _ (.int _ _ ?_)) hn)
        · simp only [execOp, hop, resolve, Sem.run_bind, invoke, builtin]
          simp [Builtin.min_, Builtin.min2, e1, e2, minI]
        · unfold minI
          cases decide (m < n) <;> simp [w1, w2]
      · cases h
    · cases h
  · rename_i x y ts
    split at h
    · rename_i k n k' m hx hy
      split at h
      · rename_i hk
        have hk := eq_of_beq hk
        subst hk
        cases h
        obtain ⟨e1, w1⟩ := inv_int (evO_sound R hx)
        obtain ⟨e2, w2⟩ := inv_int (evO_sound R hy)
        refine wp_value (v := .int k (maxI n m)) (w' := w) ?_ (next_put R hd (.d _ _ (.int _ _ ?_)) hn)
        · simp only [execOp, hop, resolve, Sem.run_bind, invoke, builtin]
          simp [Builtin.max_, Builtin.max2, e1, e2, maxI]
        · unfold maxI
          cases decide (m > n) <;> simp [w1, w2]
      · cases h
    · cases h
  · exact append_sound T R hop hd h0 hn
  · cases h

end Go.VM
