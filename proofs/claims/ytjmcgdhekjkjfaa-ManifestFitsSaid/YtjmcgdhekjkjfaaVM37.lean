/- The machine over values: what each operation does is told apart from the state: stores, builtins, all. -/
import Derived.Test.YtjmcgdhekjkjfaaVM36
set_option linter.unusedSimpArgs false
set_option linter.unusedVariables false
namespace Go.VM
open Go

variable {C : Ctx} {n i : Nat} {fl : Bool} {o : Oper} {s s1 s2 : St}

theorem eff_setB {b : Nat} {B : Blk} {f : Pl → Bool} (hs : (getB s b).isSome = true) : Eff ⟨none, .any, fun i x => if i = b then some B else x, f, fun _ => false, 0⟩ s
    { (s.setB b B) with owns := dropPl f s.owns } where
  look t := by simp [St.setB]
  blk j := by
    cases e : getB s b with
    | none => rw [e] at hs; cases hs
    | some B0 => exact getB_setB e j
  len := by simp [St.setB]
  own p := by simp [hasPl_dropPl]

theorem evStore_same {t : Nat} {p v : V} {s' : St} (h : evStore C s t p v = some s') : ∃ b off B f, p = .ptr b off ∧ (getB s b).isSome = true ∧ (∀ q : Pl, f q = true → ∃ j k, q = .b j k) ∧
    Eff ⟨none, .any, fun i x => if i = b then some B else x, f, fun _ => false, 0⟩ s s' ∧
    ∀ s2 : St, (∀ B, getB s b = some B → getB s2 b = some B) → ∃ s2', evStore C s2 t p v = some s2' ∧ Eff ⟨none, .any, fun i x => if i = b then some B else x, f, fun _ => false, 0⟩ s2 s2' := by
  simp only [evStore] at h
  split at h
  · rename_i ti b off new hti hnew
    cases hc : Nat.beq new.length ti.size with
    | false => rw [hc] at h; cases h
    | true =>
      rw [hc, cond_true] at h
      split at h
      · rename_i cs hb
        cases hc2 : Nat.ble (off + new.length) cs.length with
        | false => rw [hc2] at h; cases h
        | true =>
          rw [hc2, cond_true] at h
          cases h
          refine ⟨b, off, .cells false (splice off new cs), _, rfl, by simp [hb], fun q hq => ?_, eff_setB (by simp [hb]), fun s2 h2 => ?_⟩
          · cases q with
            | b j k => exact ⟨j, k, rfl⟩
            | _ => cases hq
          · have hb2 := h2 _ hb
            refine ⟨_, by simp only [evStore, hti, hnew, hc, hb2, hc2, cond_true], eff_setB (by simp [hb2])⟩
      · rename_i k xs hb
        split at h
        · rename_i ns hns
          cases hc2 : Nat.ble (off + ns.length) xs.length with
          | false => rw [hc2] at h; cases h
          | true =>
            rw [hc2, cond_true] at h
            cases h
            have e : ∀ s : St, (getB s b).isSome = true → Eff ⟨none, .any, fun i x => if i = b then some (.ints false k (splice off ns xs)) else x, fun _ => false, fun _ => false, 0⟩ s (s.setB b (.ints false k (splice off ns xs))) := by
              intro s hs
              have := eff_setB (B := .ints false k (splice off ns xs)) (f := fun _ => false) hs
              exact ⟨this.look, this.blk, this.len, fun p => by simp [St.setB]⟩
            refine ⟨b, off, .ints false k (splice off ns xs), fun _ => false, rfl, by simp [hb], fun q hq => (by cases hq), e s (by simp [hb]), fun s2 h2 => ?_⟩
            have hb2 := h2 _ hb
            exact ⟨_, by simp only [evStore, hti, hnew, hc, hb2, hns, hc2, cond_true], e s2 (by simp [hb2])⟩
        · cases h
      · cases h
  · cases h

theorem cong_store {t : TypeId} {x y : Operand} (hop : o.op = .store t x y) (h : opD C n i fl o s = some s1) : Cong C n i fl o s s1 := by
  have hx : x ∈ o.op.operands.toList := by simp [hop, Op.operands]
  have hy : y ∈ o.op.operands.toList := by simp [hop, Op.operands]
  have hw : isWr o = true := by simp [isWr, hop]
  have hr : isRd o = false := by simp [isRd, hop]
  have hn : isNew o = false := by simp [isNew, hop]
  have h0 := h
  simp only [opD, hop] at h
  split at h
  · cases h
  · rename_i hfl
    simp only [evOp, hop] at h
    split at h
    · rename_i p v hp hv
      split at h
      · rename_i sm hst
        obtain ⟨b, off, B, f, rfl, hsome, hf, e1, e2⟩ := evStore_same hst
        obtain ⟨u, rfl, hu⟩ : ∃ u, x = .tmp u ∧ look u s.tmps = some (.ptr b off) := by
          rcases evO_refs hp with h | h
          · exact h
          · simp [refs] at h
        have fwr : ∀ δ : Dl, (∀ j x, j ≠ b → δ.b j x = x) → isWr o = true → ∀ j, (∀ x, δ.b j x = x) ∨ ((getB s j).isSome = true ∧ (fl = true → n ≤ j)) := by
          intro δ hδ _ j
          by_cases hj : j = b
          · subst hj
            refine .inr ⟨hsome, fun hf => ?_⟩
            subst hf
            simp only [refsO, hu, refs, allGe, Bool.true_and, Bool.not_eq_false'] at hfl
            cases e : Nat.ble n j with
            | true => exact Nat.le_of_ble_eq_true e
            | false => rw [e] at hfl; cases hfl
          · exact .inl fun x => hδ j x hj
        have efl : ∀ s2, Agree o (n + i) s s2 → refsO s2 (.tmp u) = refsO s (.tmp u) := fun s2 A => refsO_same fun t ht => A.tm t (by rw [← ht]; exact hx)
        have ewr : ∀ s2, Agree o (n + i) s s2 → ∀ B, getB s b = some B → getB s2 b = some B := fun s2 A B hB => A.wr t u y hop _ hu b (by simp [refs]) B hB
        cases hsl : isSl v with
        | false =>
          have fin : ∀ s2, Agree o (n + i) s s2 → ∃ s2', opD C n i fl o s2 = some s2' ∧ Eff (Dl.comp ⟨none, .any, fun i x => if i = b then some B else x, f, fun _ => false, 0⟩ ⟨o.dst, .skip, fun _ b => b, dropD o.dst, fun _ => false, 0⟩) s2 s2' := by
            intro s2 A
            obtain ⟨sm2, g1, g2⟩ := e2 s2 (ewr s2 A)
            refine ⟨_, ?_, Eff.comp (.inl rfl) g2 (eff_put sm2 o.dst .skip)⟩
            simp only [opD, hop, efl s2 A, hfl, evOp, A.evO hx, hp, A.evO hy, hv, g1, hsl]
          obtain ⟨s', g1, g2⟩ := fin s (Agree.refl o _ s)
          rw [h0] at g1; cases g1
          refine ⟨_, ⟨?_, fun _ h3 => (by rw [hw] at h3; cases h3), fun h3 => (by rw [hn] at h3; cases h3), fun h3 => (by rw [hr] at h3; cases h3), fwr _ (fun j x hj => by simp [Dl.comp, hj]), fun h3 => (by simp [isLoad, hop] at h3), fun j x hx => (by simp only [Dl.comp]; split <;> first | rfl | exact hx), fun p hp => ?_, fun p hp => ?_⟩, g2, fin⟩
          · simp only [Dl.comp]; cases o.dst <;> rfl
          · simp [Dl.comp] at hp
          · simp only [Dl.comp, Bool.or_eq_true] at hp
            rcases hp with hp | hp
            · exact .inr (.inr ⟨.inr hw, hf p hp⟩)
            · exact .inl hp
        | true =>
          cases y with
          | tmp z =>
            have huz : uses o (.t z) = true := by simp [uses, usesT, hop, tmpsL]
            have hfz : f (.t z) = false := by
              cases e : f (.t z) with
              | false => rfl
              | true => obtain ⟨j, k, h⟩ := hf _ e; cases h
            let d1 : Dl := ⟨none, .any, fun i x => if i = b then some B else x, f, fun _ => false, 0⟩
            let d2 : Dl := ⟨none, .any, fun _ b => b, Pl.beq (.t z), fun r => hasPl (.t z) s.owns && Pl.beq (.b b off) r, 0⟩
            let d3 : Dl := ⟨o.dst, .skip, fun _ b => b, dropD o.dst, fun _ => false, 0⟩
            have fin : ∀ s2, Agree o (n + i) s s2 → ∃ s2', opD C n i fl o s2 = some s2' ∧ Eff ((d1.comp d2).comp d3) s2 s2' := by
              intro s2 A
              obtain ⟨sm2, g1, g2⟩ := e2 s2 (ewr s2 A)
              have eg : Eff d2 sm2 (sm2.give (.t z) (.b b off)) := by
                have := eff_give sm2 (.t z) (.b b off)
                have e3 : hasPl (.t z) sm2.owns = hasPl (.t z) s.owns := by rw [g2.own, A.us _ huz]; simp [hfz]
                rw [e3] at this
                exact this
              refine ⟨_, ?_, Eff.comp (.inl rfl) (Eff.comp (.inl rfl) g2 eg) (eff_put _ o.dst .skip)⟩
              simp only [opD, hop, efl s2 A, hfl, evOp, A.evO hx, hp, A.evO hy, hv, g1, hsl]
            obtain ⟨s', g1, g2⟩ := fin s (Agree.refl o _ s)
            rw [h0] at g1; cases g1
            refine ⟨_, ⟨?_, fun _ h3 => (by rw [hw] at h3; cases h3), fun h3 => (by rw [hn] at h3; cases h3), fun h3 => (by rw [hr] at h3; cases h3), fwr _ (fun j x hj => by simp [Dl.comp, d1, d2, d3, hj]), fun h3 => (by simp [isLoad, hop] at h3), fun j x hx => (by simp only [Dl.comp, d1, d2, d3]; split <;> first | rfl | exact hx), fun p hp => ?_, fun p hp => ?_⟩, g2, fin⟩
            · simp only [Dl.comp, d1, d2, d3]; cases o.dst <;> rfl
            · simp only [Dl.comp, d1, d2, d3, Bool.false_and, Bool.or_false, Bool.false_or, Bool.and_eq_true] at hp
              exact .inr ⟨hw, b, off, (Pl.beq_iff.1 hp.1.2).symm⟩
            · simp only [Dl.comp, d1, d2, d3, Bool.or_eq_true] at hp
              rcases hp with (hp | hp) | hp
              · exact .inr (.inr ⟨.inr hw, hf p hp⟩)
              · have := Pl.beq_iff.1 hp
                subst this
                exact .inr (.inl huz)
              · exact .inl hp
          | _ =>
            have fin : ∀ s2, Agree o (n + i) s s2 → ∃ s2', opD C n i fl o s2 = some s2' ∧ Eff (Dl.comp ⟨none, .any, fun i x => if i = b then some B else x, f, fun _ => false, 0⟩ ⟨o.dst, .skip, fun _ b => b, dropD o.dst, fun _ => false, 0⟩) s2 s2' := by
              intro s2 A
              obtain ⟨sm2, g1, g2⟩ := e2 s2 (ewr s2 A)
              refine ⟨_, ?_, Eff.comp (.inl rfl) g2 (eff_put sm2 o.dst .skip)⟩
              simp only [opD, hop, efl s2 A, hfl, evOp, A.evO hx, hp, A.evO hy, hv, g1, hsl]
            obtain ⟨s', g1, g2⟩ := fin s (Agree.refl o _ s)
            rw [h0] at g1; cases g1
            refine ⟨_, ⟨?_, fun _ h3 => (by rw [hw] at h3; cases h3), fun h3 => (by rw [hn] at h3; cases h3), fun h3 => (by rw [hr] at h3; cases h3), fwr _ (fun j x hj => by simp [Dl.comp, hj]), fun h3 => (by simp [isLoad, hop] at h3), fun j x hx => (by simp only [Dl.comp]; split <;> first | rfl | exact hx), fun p hp => ?_, fun p hp => ?_⟩, g2, fin⟩
            · simp only [Dl.comp]; cases o.dst <;> rfl
            · simp [Dl.comp] at hp
            · simp only [Dl.comp, Bool.or_eq_true] at hp
              rcases hp with hp | hp
              · exact .inr (.inr ⟨.inr hw, hf p hp⟩)
              · exact .inl hp
      · cases h
    · cases h

-- ------------------------------------------------------------ builtins

theorem srcNums_same {k : IntKind} {x : V} {ys : List Int} (h : srcNums s k x = some ys) (hb : ∀ i ∈ refs x, BlkEq s s2 i) : srcNums s2 k x = some ys := by
  cases x with
  | mu m off len cap sz =>
    simp only [srcNums] at h ⊢
    split at h
    · rename_i fz k' xs e
      obtain ⟨_, h2⟩ := (hb m (by simp [refs])).ints e
      simp only [h2]; exact h
    · cases h
  | d y => cases y <;> exact h
  | _ => exact h

theorem srcSl_same {k : Nat} {x : V} {ys : List (List D)} (h : srcSl s k x = some ys) (hb : ∀ i ∈ refs x, BlkEq s s2 i) : srcSl s2 k x = some ys := by
  cases x with
  | mu m off len cap sz =>
    simp only [srcSl] at h ⊢
    split at h
    · rename_i fz cs e
      obtain ⟨_, h2⟩ := (hb m (by simp [refs])).cells e
      simp only [h2]; exact h
    · cases h
  | d y => cases y <;> exact h
  | _ => exact h

theorem evAppend_same {t : Nat} {own : Bool} {b x : V} {r : D} (h : evAppend C s t own b x = some r) (hb : ∀ i ∈ refs x, BlkEq s s2 i) : evAppend C s2 t own b x = some r := by
  simp only [evAppend] at h ⊢
  split at h
  · rename_i e' he'
    split at h
    · rename_i j hj
      split at h
      · rename_i k nl xs
        cases hc : ((own || nl) && Nat.beq j.size 1) with
        | false => rw [hc] at h; cases h
        | true =>
          rw [hc, cond_true] at h
          split at h
          · rename_i ys hys
            simp only [hj, hc, cond_true, srcNums_same hys hb]; exact h
          · cases h
      · rename_i sz nl xs
        cases hc : ((own || nl) && Nat.beq j.size sz && Nat.blt 0 sz) with
        | false => rw [hc] at h; cases h
        | true =>
          rw [hc, cond_true] at h
          split at h
          · rename_i ys hys
            simp only [hj, hc, cond_true, srcSl_same hys hb]; exact h
          · cases h
      · cases h
    · cases h
  · cases h

theorem cong_builtin {c : Call} {b : Builtin} (hop : o.op = .call c) (hc : c.callee = .builtin b) (h : opD C n i fl o s = some s1) : Cong C n i fl o s s1 := by
  have hx : ∀ x ∈ c.args.toList, x ∈ o.op.operands.toList := fun x hx => by simp [hop, Op.operands, Call.operands, hc]; simpa using hx
  have eo : ∀ st : St, opD C n i fl o st = evBuiltin C st o.dst b c.args.toList c.argTypes.toList := fun st => by simp only [opD, evOp, hop, hc]
  have h0 := h
  rw [eo] at h
  unfold evBuiltin at h
  split at h
  · rename_i x t ha ht
    have hx1 := hx x (by rw [ha]; simp)
    split at h
    · rename_i v hv
      split at h
      · rename_i k hk
        refine cong_val (.d (.int .i64 k)) (fun s2 A => ?_) h0
        rw [eo, ha, ht]
        simp only [evBuiltin, A.evO hx1, hv, hk]
      · cases h
    · cases h
  · rename_i x y ha
    have hx1 := hx x (by rw [ha]; simp)
    have hx2 := hx y (by rw [ha]; simp)
    split at h
    · rename_i k1 a1 k2 b1 e1 e2
      split at h
      · rename_i hk
        refine cong_val (.d (.int k1 (minI a1 b1))) (fun s2 A => ?_) h0
        rw [eo, ha]
        simp only [evBuiltin, A.evO hx1, A.evO hx2, e1, e2, hk]
      · cases h
    · cases h
  · rename_i x y ha
    have hx1 := hx x (by rw [ha]; simp)
    have hx2 := hx y (by rw [ha]; simp)
    split at h
    · rename_i k1 a1 k2 b1 e1 e2
      split at h
      · rename_i hk
        refine cong_val (.d (.int k1 (maxI a1 b1))) (fun s2 A => ?_) h0
        rw [eo, ha]
        simp only [evBuiltin, A.evO hx1, A.evO hx2, e1, e2, hk]
      · cases h
    · cases h
  · rename_i x y t u ha ht
    have hx1 := hx x (by rw [ha]; simp)
    have hx2 := hx y (by rw [ha]; simp)
    have hr : isRd o = true := by simp [isRd, hop, hc]
    have hw : isWr o = false := by simp [isWr, hop]
    have hn : isNew o = false := by simp [isNew, hop]
    split at h
    · rename_i v w e1 e2
      split at h
      · cases h
      · rename_i hsrc
        split at h
        · rename_i r hr'
          obtain ⟨z, hz⟩ : ∃ z, plOf x = .t z := by cases x <;> exact ⟨_, rfl⟩
          have hplu : uses o (plOf x) = true := by
            cases x <;> simp [uses, plOf, usesT, hop, hc, ha]
          have eown : ∀ s2, Agree o (n + i) s s2 → (isTmp x && hasPl (plOf x) s2.owns) = (isTmp x && hasPl (plOf x) s.owns) := by
            intro s2 A
            rw [A.us _ hplu]
          have key : ∀ s2 : St, Eff (Dl.comp ⟨none, .any, fun _ b => b, Pl.beq (plOf x), fun _ => false, 0⟩ ⟨o.dst, .d r, fun _ b => b, dropD o.dst, ownP o.dst true, 0⟩) s2
              (((s2.disown (Pl.beq (plOf x))).put o.dst (.d r)).own o.dst true) := fun s2 => Eff.comp (.inl rfl) (eff_disown _ _) (eff_putOwn _ _ _ _)
          have fin : ∀ s2, Agree o (n + i) s s2 → opD C n i fl o s2 = some (((s2.disown (Pl.beq (plOf x))).put o.dst (.d r)).own o.dst true) := by
            intro s2 A
            rw [eo, ha, ht]
            simp only [evBuiltin, A.evO hx1, A.evO hx2, e1, e2, hsrc, eown s2 A, evAppend_same hr' (A.blk hr hx2 e2)]
          have := fin s (Agree.refl o _ s)
          rw [h0] at this; cases this
          refine ⟨_, fits_id ?_ (fun _ _ => rfl) (fun p hp => ?_) (fun p hp => ?_), key s, fun s2 A => ⟨_, fin s2 A, key s2⟩⟩
          · simp only [Dl.comp]; cases o.dst <;> rfl
          · simp only [Dl.comp, Bool.false_and, Bool.or_false] at hp
            cases hd : o.dst with
            | none => rw [hd] at hp; cases hp
            | some d =>
              rw [hd] at hp
              simp only [ownP, Bool.true_and] at hp
              have := Pl.beq_iff.1 hp
              subst this
              simp [dropD, Pl.ofTmp]
          · simp only [Dl.comp, Bool.or_eq_true] at hp
            rcases hp with hp | hp
            · have := Pl.beq_iff.1 hp
              subst this
              exact .inr hplu
            · exact .inl hp
        · cases h
    · cases h
  · cases h

/-- Each operation's change is told apart from the state. -/
theorem opD_cong (hl : C.lin = []) (h : opD C n i fl o s = some s1) : Cong C n i fl o s s1 := by
  cases hop : o.op with
  | move x => exact cong_move hop h
  | assign x => exact cong_assign hop h
  | pick c x y => exact cong_pick hop h
  | alloc e => exact cong_alloc hop h
  | box e x => exact cong_box hop h
  | build t ps => exact cong_build hop h
  | buildSlice t k ps => exact cong_buildSlice hop h
  | load t x => exact cong_load hl hop h
  | store t x y => exact cong_store hop h
  | nilCheck x => exact cong_nilCheck hop h
  | binOp op t x y u => exact cong_binOp hop h
  | unOp op t x => exact cong_unOp hop h
  | convert a b x => exact cong_convert hop h
  | makeInterface t x => exact cong_makeInterface hop h
  | makeFunc f first caps =>
    cases f with
    | func f => exact cong_makeFunc hop h
    | _ => simp [opD, evOp, hop] at h
  | makeSlice t l c => exact cong_makeSlice hop h
  | slice t x lo hi mx => exact cong_slice hop h
  | fieldAddr t x f => exact cong_fieldAddr hop h
  | field t x f => exact cong_field hop h
  | indexAddr t x y => exact cong_indexAddr hop h
  | index t x y => exact cong_index hop h
  | extract x j => exact cong_extract hop h
  | call c =>
    cases hc : c.callee with
    | builtin b => exact cong_builtin hop hc h
    | value f => exact cong_call hop hc h
    | invoke r m => simp [opD, evOp, hop, hc] at h
  | _ => simp [opD, evOp, hop] at h

end Go.VM
