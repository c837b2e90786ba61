/- The machine over values: operators, addresses, interface values. -/
import Derived.Test.YtjmcgdhekjkjfaaVM11
import Derived.Laws.Cover3
import Derived.LaidEqlPtr
set_option linter.unusedSimpArgs false
set_option linter.unusedVariables false
namespace Go.VM
open Go

variable {P : Program} {C : Ctx} {st st' : St} {a : Act} {w : World} {own : Own} {β : Nat → Option Nat}
variable {o : Oper} {next : Act → World → Prop} {Q : Exit → Act → World → Prop}

theorem litNil_eval {x : Operand} (h : litNil x = true) : a.eval x = .slice none 0 0 := by
  unfold litNil at h
  split at h
  · rfl
  · cases h

theorem invv_nil {v : Value} {x : V} {b : Bool} (h : RepV w own β v x) (hb : nilOf x = some b) : ∃ ad l c, v = .slice ad l c ∧ ad.isNone = b := by
  unfold nilOf at hb
  split at hb
  · cases hb; exact invd_nums (inv_d h)
  · cases hb; exact invd_sl (inv_d h)
  · cases hb; cases h with | mu => exact ⟨_, _, _, rfl, rfl⟩
  · cases hb

theorem invv_ptr {v : Value} {x : V} {b : Bool} (h : RepV w own β v x) (hb : nilPtr x = some b) : ∃ ad, v = .pointer ad ∧ ad.isNone = b := by
  unfold nilPtr at hb
  split at hb
  · cases hb; exact ⟨none, invd_nilptr (inv_d h), rfl⟩
  · cases hb
    obtain ⟨b, o, e⟩ := invd_fp (inv_d h)
    exact ⟨_, e, rfl⟩
  · cases hb
    obtain ⟨b, _, e⟩ := inv_ptr h
    exact ⟨_, e, rfl⟩
  · cases hb; cases h; exact ⟨_, rfl, rfl⟩
  · cases hb

theorem evEq_sound (T : TOk P C.tt) {t : Nat} {ox oy : Operand} {x y : V} {r : Bool} {u v : Value} (hxr : RepV w own β u x) (hyr : RepV w own β v y)
    (hlx : litNil ox = true → u = .slice none 0 0) (hly : litNil oy = true → v = .slice none 0 0)
    (h : evEq C t ox oy x y = some r) :
    (∀ op, (eqGuard op t ox oy u v).run P w = .ok () w) ∧ (Op.equal t u v).run P w = .ok r w := by
  unfold evEq at h
  split at h
  · cases h
  · rename_i i hi
    obtain ⟨info, ds, z, row⟩ := T.get hi
    have h10 : ∀ u v, Op.equal t u v = Op.equalIn (9999 + 1) t u v := fun _ _ => rfl
    revert h10
    generalize 9999 = dd
    intro h10
    split at h
    · rename_i hk
      split at h
      · cases h
        have := row.bool hk; subst this
        rw [inv_bool hxr, inv_bool hyr, h10]
        exact ⟨fun op => by rw [eqGuard_at_bool]; rfl, by simp [Op.equalIn, run_underlying row.und]⟩
      · cases h
    · rename_i k0 hk
      split at h
      · rename_i k n k' m
        cases hkk : k == k' with
        | false => rw [hkk] at h; cases h
        | true =>
          rw [hkk] at h
          simp only [cond_true, Option.some.injEq] at h
          have := eq_of_beq hkk
          subst this
          have := row.int hk; subst this
          rw [(inv_int hxr).1, (inv_int hyr).1, ← h, h10]
          exact ⟨fun op => by rw [eqGuard_at_int]; rfl, by simp [Op.equalIn, run_underlying row.und]⟩
      · cases h
    · rename_i hk
      split at h
      · cases h
        have := row.str hk; subst this
        obtain ⟨s, rfl, rfl, _⟩ := inv_str hxr
        obtain ⟨s', rfl, rfl, _⟩ := inv_str hyr
        rw [bytesI_inj, h10]
        exact ⟨fun op => by rw [eqGuard_at_string]; rfl, by simp [Op.equalIn, run_underlying row.und, beq_toListBytes]⟩
      · cases h
    · rename_i e hk
      have := row.slice hk; subst this
      rw [h10]
      cases hy : litNil oy with
      | true =>
        rw [hy] at h
        simp only [cond_true] at h
        obtain ⟨ad, l, c, rfl, hb⟩ := invv_nil hxr h
        rw [hly hy]
        refine ⟨fun op => by rw [eqGuard_at_slice]; rfl, ?_⟩
        rw [← hb]
        cases ad <;> simp [Op.equalIn, run_underlying row.und]
      | false =>
        rw [hy] at h
        simp only [cond_false] at h
        cases hx : litNil ox with
        | false => rw [hx] at h; cases h
        | true =>
          rw [hx] at h
          simp only [cond_true] at h
          obtain ⟨ad, l, c, rfl, hb⟩ := invv_nil hyr h
          rw [hlx hx]
          refine ⟨fun op => by rw [eqGuard_at_slice]; rfl, ?_⟩
          rw [← hb]
          cases ad <;> simp [Op.equalIn, run_underlying row.und]
    · rename_i hk
      have htk := row.tk
      rw [hk] at htk
      rw [h10]
      split at h
      · rename_i b hp hq
        cases h
        obtain ⟨ad, rfl, h1⟩ := invv_ptr hxr hp
        obtain ⟨ad', rfl, h2⟩ := invv_ptr hyr hq
        cases ad with
        | some _ => simp at h1
        | none =>
          cases ds <;> simp [tkOk] at htk
          refine ⟨fun op => by rw [eqGuard_at_pointer]; rfl, ?_⟩
          rw [← h2]
          simp [Op.equalIn, run_underlying row.und]
      · rename_i hp hq
        cases h
        obtain ⟨ad, rfl, h1⟩ := invv_ptr hxr hp
        obtain ⟨ad', rfl, h2⟩ := invv_ptr hyr hq
        cases ad with
        | none => simp at h1
        | some _ =>
          cases ad' with
          | some _ => simp at h2
          | none =>
            cases ds <;> simp [tkOk] at htk
            refine ⟨fun op => by rw [eqGuard_at_pointer]; rfl, ?_⟩
            simp [Op.equalIn, run_underlying row.und]
      · cases h
    · rename_i hk
      have htk := row.tk
      rw [hk] at htk
      split at h
      · cases hc : isCst ox || isCst oy with
        | false => rw [hc] at h; cases h
        | true =>
          rw [hc] at h; cases h
          rw [invd_nilifc (inv_d hxr), invd_nilifc (inv_d hyr), h10]
          refine ⟨fun op => ?_, ?_⟩
          · rw [Bool.or_eq_true] at hc
            unfold isCst at hc
            rcases hc with hc | hc
            · split at hc
              · rw [eqGuard_nil_constL]; rfl
              · cases hc
            · split at hc
              · rw [eqGuard_nil_constR]; rfl
              · cases hc
          · cases ds <;> simp [tkOk] at htk
            simp [Op.equalIn, run_underlying row.und]
      · cases h
        obtain ⟨u', rfl, _⟩ := invd_ifc (inv_d hyr)
        rw [invd_nilifc (inv_d hxr), h10]
        refine ⟨fun op => by rw [eqGuard_nil_iface]; rfl, ?_⟩
        cases ds <;> simp [tkOk] at htk
        simp [Op.equalIn, run_underlying row.und]
      · cases h
        obtain ⟨u', rfl, _⟩ := invd_ifc (inv_d hxr)
        rw [invd_nilifc (inv_d hyr), h10]
        refine ⟨fun op => by rw [eqGuard_at_iface]; rfl, ?_⟩
        cases ds <;> simp [tkOk] at htk
        simp [Op.equalIn, run_underlying row.und]
      · have hh := eqT_sound T eqFuel Op.maxDepth t _ _ r u v (by unfold eqFuel Op.maxDepth; omega) h (inv_d hxr) (inv_d hyr) (w := w)
        refine ⟨fun op => ?_, hh⟩
        obtain ⟨u', rfl, _⟩ := invd_ifc (inv_d hxr)
        rw [eqGuard_at_iface]; rfl
      · cases h
    · rename_i fs hk
      split at h
      · cases he : i.eq with
        | false => rw [he] at h; cases h
        | true =>
          rw [he] at h
          simp only [cond_true] at h
          have hh := eqT_sound T eqFuel Op.maxDepth t _ _ r u v (by unfold eqFuel Op.maxDepth; omega) h (inv_d hxr) (inv_d hyr) (w := w)
          refine ⟨fun op => ?_, hh⟩
          obtain ⟨arr, rfl, _⟩ := invd_agg (inv_d hxr)
          obtain ⟨arr', rfl, _⟩ := invd_agg (inv_d hyr)
          exact run_eqGuard_agg w op t ox oy arr arr' ((T.agg t i hi (by simp [TI.isAgg, hk])).2 he)
      · cases h
    · rename_i n e hk
      split at h
      · cases he : i.eq with
        | false => rw [he] at h; cases h
        | true =>
          rw [he] at h
          simp only [cond_true] at h
          have hh := eqT_sound T eqFuel Op.maxDepth t _ _ r u v (by unfold eqFuel Op.maxDepth; omega) h (inv_d hxr) (inv_d hyr) (w := w)
          refine ⟨fun op => ?_, hh⟩
          obtain ⟨arr, rfl, _⟩ := invd_agg (inv_d hxr)
          obtain ⟨arr', rfl, _⟩ := invd_agg (inv_d hyr)
          exact run_eqGuard_agg w op t ox oy arr arr' ((T.agg t i hi (by simp [TI.isAgg, hk])).2 he)
      · cases h
    · cases h

end Go.VM
