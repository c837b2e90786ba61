/- The machine over values: what each operation does is told apart from the state. -/
import Derived.Test.YtjmcgdhekjkjfaaVM33
set_option linter.unusedSimpArgs false
set_option linter.unusedVariables false
namespace Go.VM
open Go

variable {C : Ctx} {n i : Nat} {fl : Bool} {o : Oper} {s s1 : St}

theorem inLin_nil (hl : C.lin = []) (d : Option Nat) : inLin C d = false := by
  cases d <;> simp [inLin, hl, hasNat]

theorem cong_move {x : Operand} (hop : o.op = .move x) (h : opD C n i fl o s = some s1) : Cong C n i fl o s s1 := by
  have hx : x ∈ o.op.operands.toList := by simp [hop, Op.operands]
  have h0 := h
  simp only [opD, hop] at h
  split at h
  · rename_i v hv
    split at h
    · cases h
    · rename_i ht
      refine cong_val v (fun s2 A => ?_) h0
      simp only [opD, hop, A.evO hx, hv, ht]
  · cases h

theorem cong_give {v : V} {p : Pl} {d : Nat} (hd : o.dst = some d) (hu : uses o p = true) (h : ∀ s2, Agree o (n + i) s s2 → opD C n i fl o s2 = some ((s2.put o.dst v).give p (.t d)))
    (hs : opD C n i fl o s = some s1) : Cong C n i fl o s s1 := by
  have := h s (Agree.refl o _ s)
  rw [hs] at this; cases this
  have key : ∀ s2, hasPl p s2.owns = hasPl p s.owns → Eff (Dl.comp ⟨o.dst, v, fun _ b => b, dropD o.dst, fun _ => false, 0⟩ ⟨none, .any, fun _ b => b, Pl.beq p, fun r => hasPl p (s.put o.dst v).owns && Pl.beq (.t d) r, 0⟩) s2 ((s2.put o.dst v).give p (.t d)) := by
    intro s2 e
    refine Eff.comp (.inr rfl) (eff_put _ _ _) ?_
    have := eff_give (s2.put o.dst v) p (.t d)
    rw [hasPl_put, e, ← hasPl_put s o.dst v] at this
    exact this
  refine ⟨_, fits_id rfl (fun _ _ => rfl) (fun r hr => ?_) (fun r hr => ?_), key s rfl, fun s2 A => ⟨_, h s2 A, key s2 (A.us p hu)⟩⟩
  · simp only [Dl.comp, Bool.false_and, Bool.or_false, Bool.and_eq_true] at hr
    have := Pl.beq_iff.1 hr.2
    subst this
    simp [dropD, hd, Pl.ofTmp]
  · simp only [Dl.comp, Bool.or_eq_true] at hr
    rcases hr with hr | hr
    · exact .inl hr
    · have := Pl.beq_iff.1 hr
      subst this
      exact .inr hu

theorem cong_assign {x : Operand} (hop : o.op = .assign x) (h : opD C n i fl o s = some s1) : Cong C n i fl o s s1 := by
  have hx : x ∈ o.op.operands.toList := by simp [hop, Op.operands]
  have h0 := h
  simp only [opD, evOp, hop] at h
  split at h
  · rename_i v hv
    have key : (∃ u d, x = .tmp u ∧ o.dst = some d) ∨ (∀ s2 : St, (s2.put o.dst v).pass x o.dst true = s2.put o.dst v) := by
      cases x with
      | tmp u =>
        cases hd : o.dst with
        | none => exact .inr fun s2 => rfl
        | some d => exact .inl ⟨u, d, rfl, rfl⟩
      | _ => exact .inr fun s2 => rfl
    rcases key with ⟨u, d, rfl, hd⟩ | key
    · refine cong_give (v := v) (p := .t u) hd (by simp [uses, usesT, hop, tmpsL]) (fun s2 A => ?_) h0
      simp only [opD, evOp, hop, A.evO hx, hv, St.pass, hd]
    · refine cong_val v (fun s2 A => ?_) h0
      simp only [opD, evOp, hop, A.evO hx, hv, key]
  · cases h

theorem cong_extract {x : Operand} {j : Nat} (hop : o.op = .extract x j) (h : opD C n i fl o s = some s1) : Cong C n i fl o s s1 := by
  have hx : x ∈ o.op.operands.toList := by simp [hop, Op.operands]
  have h0 := h
  simp only [opD, evOp, hop] at h
  split at h
  · rename_i vs hv
    split at h
    · rename_i v hj
      cases x with
      | tmp u =>
        cases hd : o.dst with
        | none =>
          refine cong_val v (fun s2 A => ?_) h0
          simp only [opD, evOp, hop, A.evO hx, hv, hj, hd]
        | some d =>
          refine cong_give (v := v) (p := .c u j) hd (by simp [uses, usesC, hop]) (fun s2 A => ?_) h0
          simp only [opD, evOp, hop, A.evO hx, hv, hj, hd]
      | _ =>
        refine cong_val v (fun s2 A => ?_) h0
        simp only [opD, evOp, hop, A.evO hx, hv, hj]
    · cases h
  · cases h

theorem cong_pick {c x y : Operand} (hop : o.op = .pick c x y) (h : opD C n i fl o s = some s1) : Cong C n i fl o s s1 := by
  have hc : c ∈ o.op.operands.toList := by simp [hop, Op.operands]
  have h0 := h
  simp only [opD, evOp, hop] at h
  split at h
  · rename_i b hb
    cases b with
    | true =>
      have hz : x ∈ o.op.operands.toList := by simp [hop, Op.operands]
      simp only at h
      split at h
      · rename_i v hv
        refine cong_val v (fun s2 A => ?_) h0
        simp only [opD, evOp, hop, A.evO hc, hb, A.evO hz, hv]
      · cases h
    | false =>
      have hz : y ∈ o.op.operands.toList := by simp [hop, Op.operands]
      simp only at h
      split at h
      · rename_i v hv
        refine cong_val v (fun s2 A => ?_) h0
        simp only [opD, evOp, hop, A.evO hc, hb, A.evO hz, hv]
      · cases h
  · cases h

theorem cong_nilCheck {x : Operand} (hop : o.op = .nilCheck x) (h : opD C n i fl o s = some s1) : Cong C n i fl o s s1 := by
  have hx : x ∈ o.op.operands.toList := by simp [hop, Op.operands]
  have h0 := h
  simp only [opD, evOp, hop] at h
  split at h
  · rename_i f cs hv
    refine cong_val (.fn f cs) (fun s2 A => ?_) h0
    simp only [opD, evOp, hop, A.evO hx, hv]
  · rename_i v hne hv
    split at h
    · rename_i hn
      refine cong_val v (fun s2 A => ?_) h0
      simp only [opD, evOp, hop, A.evO hx, hv, hn]
    · cases h
  · cases h

theorem cong_binOp {op : BinOp} {t u : TypeId} {x y : Operand} (hop : o.op = .binOp op t x y u) (h : opD C n i fl o s = some s1) : Cong C n i fl o s s1 := by
  have hx : x ∈ o.op.operands.toList := by simp [hop, Op.operands]
  have hy : y ∈ o.op.operands.toList := by simp [hop, Op.operands]
  have h0 := h
  simp only [opD, evOp, hop] at h
  split at h
  · rename_i a b ha hb
    split at h
    · rename_i r hr
      refine cong_val (.d r) (fun s2 A => ?_) h0
      simp only [opD, evOp, hop, A.evO hx, A.evO hy, ha, hb, hr]
    · cases h
  · cases h

theorem cong_unOp {op : UnOp} {t : TypeId} {x : Operand} (hop : o.op = .unOp op t x) (h : opD C n i fl o s = some s1) : Cong C n i fl o s s1 := by
  have hx : x ∈ o.op.operands.toList := by simp [hop, Op.operands]
  have h0 := h
  simp only [opD, evOp, hop] at h
  split at h
  · rename_i a ha
    split at h
    · rename_i r hr
      refine cong_val (.d r) (fun s2 A => ?_) h0
      simp only [opD, evOp, hop, A.evO hx, ha, hr]
    · cases h
  · cases h

theorem cong_fieldAddr {t : TypeId} {f : Nat} {x : Operand} (hop : o.op = .fieldAddr t x f) (h : opD C n i fl o s = some s1) : Cong C n i fl o s s1 := by
  have hx : x ∈ o.op.operands.toList := by simp [hop, Op.operands]
  have h0 := h
  simp only [opD, evOp, hop] at h
  split at h
  · rename_i a ha
    split at h
    · rename_i r hr
      refine cong_val r (fun s2 A => ?_) h0
      simp only [opD, evOp, hop, A.evO hx, ha, hr]
    · cases h
  · cases h

theorem cong_field {t : TypeId} {f : Nat} {x : Operand} (hop : o.op = .field t x f) (h : opD C n i fl o s = some s1) : Cong C n i fl o s s1 := by
  have hx : x ∈ o.op.operands.toList := by simp [hop, Op.operands]
  have h0 := h
  simp only [opD, evOp, hop] at h
  split at h
  · rename_i a ha
    split at h
    · rename_i r hr
      refine cong_val r (fun s2 A => ?_) h0
      simp only [opD, evOp, hop, A.evO hx, ha, hr]
    · cases h
  · cases h

theorem cong_indexAddr {t : TypeId} {x y : Operand} (hop : o.op = .indexAddr t x y) (h : opD C n i fl o s = some s1) : Cong C n i fl o s s1 := by
  have hx : x ∈ o.op.operands.toList := by simp [hop, Op.operands]
  have hy : y ∈ o.op.operands.toList := by simp [hop, Op.operands]
  have h0 := h
  simp only [opD, evOp, hop] at h
  split at h
  · rename_i a b ha hb
    split at h
    · rename_i k hk
      split at h
      · rename_i r hr
        refine cong_val r (fun s2 A => ?_) h0
        simp only [opD, evOp, hop, A.evO hx, A.evO hy, ha, hb, hk, hr]
      · cases h
    · cases h
  · cases h

theorem cong_index {t : TypeId} {x y : Operand} (hop : o.op = .index t x y) (h : opD C n i fl o s = some s1) : Cong C n i fl o s s1 := by
  have hx : x ∈ o.op.operands.toList := by simp [hop, Op.operands]
  have hy : y ∈ o.op.operands.toList := by simp [hop, Op.operands]
  have h0 := h
  simp only [opD, evOp, hop] at h
  split at h
  · rename_i a b ha hb
    split at h
    · rename_i k hk
      split at h
      · rename_i r hr
        refine cong_val r (fun s2 A => ?_) h0
        simp only [opD, evOp, hop, A.evO hx, A.evO hy, ha, hb, hk, hr]
      · cases h
    · cases h
  · cases h

theorem partsAt_same {s2 : St} {place : Nat → Option (Nat × Nat)} : ∀ {l : List (Nat × Operand)}, (∀ t p, p ∈ l → evO C s2 t p.2 = evO C s t p.2) → partsAt C s2 place l = partsAt C s place l
  | [], _ => rfl
  | (i, x) :: l, h => by
    simp only [partsAt]
    rw [partsAt_same (l := l) fun t p hp => h t p (List.mem_cons_of_mem _ hp)]
    cases place i with
    | none => rfl
    | some r =>
      obtain ⟨off, ft⟩ := r
      simp only [h ft (i, x) (List.mem_cons_self ..)]

theorem cong_build {t : TypeId} {ps : Array (Nat × Operand)} (hop : o.op = .build t ps) (h : opD C n i fl o s = some s1) : Cong C n i fl o s s1 := by
  have hx : ∀ p ∈ ps.toList, p.2 ∈ o.op.operands.toList := fun p hp => by
    simp only [hop, Op.operands, List.mem_map]; exact ⟨p, hp, rfl⟩
  have e : ∀ s2, Agree o (n + i) s s2 → evBuild C s2 t ps.toList = evBuild C s t ps.toList := fun s2 A => by
    have := fun place => partsAt_same (C := C) (s := s) (s2 := s2) (place := place) (l := ps.toList) fun t p hp => A.evO (hx p hp)
    simp only [evBuild, this]
  have h0 := h
  simp only [opD, evOp, hop] at h
  split at h
  · rename_i a ha
    refine cong_val a (fun s2 A => ?_) h0
    simp only [opD, evOp, hop, e s2 A, ha]
  · cases h

theorem cong_buildSlice {t : TypeId} {k : Nat} {ps : Array (Nat × Operand)} (hop : o.op = .buildSlice t k ps) (h : opD C n i fl o s = some s1) : Cong C n i fl o s s1 := by
  have hx : ∀ p ∈ ps.toList, p.2 ∈ o.op.operands.toList := fun p hp => by
    simp only [hop, Op.operands, List.mem_map]; exact ⟨p, hp, rfl⟩
  have e : ∀ s2, Agree o (n + i) s s2 → litCells C s2 t k ps.toList = litCells C s t k ps.toList := fun s2 A => by
    have := fun place => partsAt_same (C := C) (s := s) (s2 := s2) (place := place) (l := ps.toList) fun t p hp => A.evO (hx p hp)
    simp only [litCells, this]
  have h0 := h
  simp only [opD, evOp, hop] at h
  split at h
  · rename_i cs j hc
    split at h
    · rename_i r hr
      refine cong_own (.d r) true (fun s2 A => ?_) h0
      simp only [opD, evOp, hop, e s2 A, hc, hr]
    · cases h
  · cases h

theorem evCaps_same {s2 : St} : ∀ {l : List Operand}, (∀ t x, x ∈ l → evO C s2 t x = evO C s t x) → evCaps C s2 l = evCaps C s l
  | [], _ => rfl
  | x :: l, h => by
    simp only [evCaps]
    rw [evCaps_same (l := l) fun t p hp => h t p (List.mem_cons_of_mem _ hp), h 0 x (List.mem_cons_self ..)]

theorem cong_makeFunc {f : FuncId} {first caps : Array Operand} (hop : o.op = .makeFunc (.func f) first caps) (h : opD C n i fl o s = some s1) : Cong C n i fl o s s1 := by
  have e : ∀ s2, Agree o (n + i) s s2 → evCaps C s2 caps.toList = evCaps C s caps.toList := fun s2 A => evCaps_same fun t x hx => A.evO (by
    simp only [hop, Op.operands, Array.toList_append, List.mem_append]; exact .inr hx)
  have h0 := h
  simp only [opD, evOp, hop] at h
  split at h
  · rename_i cs h1 h2
    refine cong_val (.fn f cs) (fun s2 A => ?_) h0
    simp only [opD, evOp, hop, e s2 A, h1, h2]
  · cases h

end Go.VM
