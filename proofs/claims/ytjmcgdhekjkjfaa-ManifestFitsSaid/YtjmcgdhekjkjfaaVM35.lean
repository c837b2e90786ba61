/- The machine over values: what each operation does is told apart from the state: blocks. -/
import Derived.Test.YtjmcgdhekjkjfaaVM34
set_option linter.unusedSimpArgs false
set_option linter.unusedVariables false
namespace Go.VM
open Go

variable {C : Ctx} {n i : Nat} {fl : Bool} {o : Oper} {s s1 s2 : St}

theorem evO_refs {t : Nat} {x : Operand} {p : V} (h : evO C s t x = some p) : (∃ u, x = .tmp u ∧ look u s.tmps = some p) ∨ refs p = [] := by
  cases x with
  | tmp u => exact .inl ⟨u, rfl, h⟩
  | const c =>
    simp only [evO] at h
    split at h
    · cases h; exact .inr (by simp [refs])
    · cases h
  | global g => cases h; exact .inr (by simp [refs])
  | func f => cases h; exact .inr (by simp [refs, refsL])

theorem Agree.blk {slot : Nat} (A : Agree o slot s s2) (hr : isRd o = true) {t : Nat} {x : Operand} {p : V} (hx : x ∈ o.op.operands.toList) (h : VM.evO C s t x = some p) :
    ∀ i ∈ refs p, BlkEq s s2 i := by
  intro i hi
  rcases evO_refs h with ⟨u, rfl, hu⟩ | h0
  · exact A.rd hr u hx p hu i hi
  · rw [h0] at hi; simp at hi

theorem refsO_same {x : Operand} (h : ∀ t, x = .tmp t → look t s2.tmps = look t s.tmps) : refsO s2 x = refsO s x := by
  cases x with
  | tmp u => simp only [refsO, h u rfl]
  | _ => rfl

theorem BlkEq.cells {b : Nat} {fz : Bool} {cs : List V} (h : BlkEq s s2 b) (hb : getB s b = some (.cells fz cs)) : ∃ fz2, getB s2 b = some (.cells fz2 cs) := by
  obtain ⟨B2, h1, h2⟩ := h _ hb
  cases B2 with
  | cells fz2 cs2 =>
    simp only [Blk.freeze, Blk.cells.injEq, true_and] at h2
    exact ⟨fz2, by rw [h1, h2]⟩
  | ints _ _ _ => simp [Blk.freeze] at h2
theorem BlkEq.ints {b : Nat} {fz : Bool} {k : IntKind} {xs : List Int} (h : BlkEq s s2 b) (hb : getB s b = some (.ints fz k xs)) : ∃ fz2, getB s2 b = some (.ints fz2 k xs) := by
  obtain ⟨B2, h1, h2⟩ := h _ hb
  cases B2 with
  | ints fz2 k2 xs2 =>
    simp only [Blk.freeze, Blk.ints.injEq, true_and] at h2
    exact ⟨fz2, by rw [h1, h2.1, h2.2]⟩
  | cells _ _ => simp [Blk.freeze] at h2

theorem evLoad_same {t : Nat} {p v : V} (h : evLoad C s t p = some v) (hb : ∀ i ∈ refs p, BlkEq s s2 i) : evLoad C s2 t p = some v := by
  cases p with
  | ptr b off =>
    have hb' := hb b (by simp [refs])
    simp only [evLoad] at h ⊢
    split at h
    · cases h
    · split at h
      · rename_i e
        obtain ⟨fz2, h2⟩ := hb'.cells e
        simp only [h2]; exact h
      · rename_i e
        obtain ⟨fz2, h2⟩ := hb'.ints e
        simp only [h2]; exact h
      · cases h
  | d x => cases x <;> (simp only [evLoad] at h ⊢; exact h)
  | _ => simp only [evLoad] at h ⊢; exact h

theorem load_op (hl : C.lin = []) {t : TypeId} {x : Operand} (hop : o.op = .load t x) (st : St) : evOp C none o st = (match evO C st 0 x with
    | some p => match evLoad C st t p with
      | some v => some (st.put o.dst v)
      | none => none
    | none => none) := by
  simp only [evOp, hop]
  cases h1 : evO C st 0 x with
  | none => rfl
  | some p =>
    simp only
    cases h2 : evLoad C st t p with
    | none => rfl
    | some v =>
      simp only [inLin_nil hl, Bool.false_and]
      cases p <;> cases o.dst <;> rfl

theorem cong_load (hl : C.lin = []) {t : TypeId} {x : Operand} (hop : o.op = .load t x) (h : opD C n i fl o s = some s1) : Cong C n i fl o s s1 := by
  have hx : x ∈ o.op.operands.toList := by simp [hop, Op.operands]
  have h0 := h
  simp only [opD, hop] at h
  split at h
  · cases h
  · rename_i hfl
    rw [load_op hl hop] at h
    split at h
    · rename_i p hp
      split at h
      · rename_i v hv
        refine cong_val v (fun s2 A => ?_) h0
        have e : refsO s2 x = refsO s x := refsO_same fun t ht => A.tm t (by rw [← ht]; exact hx)
        simp only [opD, hop, e, hfl]
        rw [load_op hl hop, A.evO hx, hp]
        simp only [evLoad_same hv (A.blk (by simp [isRd, hop]) hx hp)]
      · cases h
    · cases h

-- ------------------------------------------------------------ new blocks

theorem getB_pad (s : St) (m j : Nat) : getB (s.pad m) j = getB s j := by
  simp only [getB, St.pad]
  rcases Nat.lt_or_ge j s.blocks.length with h | h
  · rw [List.getElem?_append_left h]
  · rw [List.getElem?_append_right h, List.getElem?_eq_none (l := s.blocks) h]
    rw [List.getElem?_replicate]
    by_cases h2 : j - s.blocks.length < m - s.blocks.length <;> simp [h2]

theorem len_pad (s : St) (m : Nat) : (s.pad m).blocks.length = max s.blocks.length m := by
  simp only [St.pad, List.length_append, List.length_replicate]; omega

def newAt (m : Nat) (B : Blk) (i : Nat) (x : Option Blk) : Option Blk :=
  match x with
  | some b => some b
  | none => if i = m then some B else none

theorem eff_new (s : St) (m : Nat) (B : Blk) (hs : getB s m = none) : Eff ⟨none, .any, newAt m B, fun _ => false, fun _ => false, m + 1⟩ s ((s.pad (m + 1)).new (some m) B).2 where
  look t := by simp [St.new, St.pad]
  blk j := by
    have hm : m < (s.pad (m + 1)).blocks.length := by rw [len_pad]; omega
    simp only
    by_cases h : j = m
    · subst h
      rw [hs]
      simp [getB, St.new, hm, newAt]
    · have : newAt m B j (getB s j) = getB s j := by
        unfold newAt
        cases getB s j <;> simp [h]
      rw [this, ← getB_pad s (m + 1) j]
      simp only [getB, St.new]
      rw [List.getElem?_set_ne (Ne.symm h)]
  len := by simp only [St.new, List.length_set, len_pad]
  own p := by simp [St.new, St.pad]

theorem cong_new {v : V} {B : Blk} (hg : getB s (n + i) = none) (hn : isNew o = true) (hr : isRd o = false) (hw : isWr o = false)
    (h : ∀ s2, Agree o (n + i) s s2 → opD C n i fl o s2 = some (((s2.pad (n + i + 1)).new (some (n + i)) B).2.put o.dst v)) (hs : opD C n i fl o s = some s1) : Cong C n i fl o s s1 := by
  have hnl : isLoad o = false := by
    cases hop : o.op <;> simp [isLoad, isNew, hop] at hn ⊢
  have := h s (Agree.refl o _ s)
  rw [hs] at this; cases this
  have key : ∀ s2, getB s2 (n + i) = none → Eff (Dl.comp ⟨none, .any, newAt (n + i) B, fun _ => false, fun _ => false, n + i + 1⟩ ⟨o.dst, v, fun _ b => b, dropD o.dst, fun _ => false, 0⟩) s2
      (((s2.pad (n + i + 1)).new (some (n + i)) B).2.put o.dst v) := fun s2 h => Eff.comp (.inl rfl) (eff_new _ _ _ h) (eff_put _ _ _)
  refine ⟨_, ⟨?_, fun _ _ h3 => (by rw [hn] at h3; cases h3), fun _ j x hj => ?_, fun h3 => (by rw [hr] at h3; cases h3), fun h3 => (by rw [hw] at h3; cases h3), fun h3 => (by rw [hnl] at h3; cases h3), fun j x hx => ?_, fun p hp => ?_, fun p hp => ?_⟩, key s hg, fun s2 A => ⟨_, h s2 A, key s2 (A.kept hn hg)⟩⟩
  · simp only [Dl.comp]; cases o.dst <;> rfl
  · simp only [Dl.comp, newAt]
    cases x with
    | some b => rfl
    | none =>
      rcases hj with hj | hj
      · simp [hj]
      · cases hj
  · cases x with
    | some b => rfl
    | none => cases hx
  · simp [Dl.comp] at hp
  · simp only [Dl.comp, Bool.false_or] at hp; exact .inl hp

theorem cong_alloc {e : TypeId} (hop : o.op = .alloc e) (h : opD C n i fl o s = some s1) : Cong C n i fl o s s1 := by
  have h0 := h
  simp only [opD, hop] at h
  split at h
  · rename_i hg
    simp only [evOp, hop] at h
    split at h
    · rename_i ti hti
      refine cong_new (hg := hg) (v := .ptr (n + i) 0) (B := .cells false (ti.zero.map .d)) (by simp [isNew, hop]) (by simp [isRd, hop]) (by simp [isWr, hop]) (fun s2 A => ?_) h0
      simp only [opD, hop, A.kept (by simp [isNew, hop]) hg, evOp, hti, St.new]
    · cases h
  · cases h

theorem cong_box {e : TypeId} {x : Operand} (hop : o.op = .box e x) (h : opD C n i fl o s = some s1) : Cong C n i fl o s s1 := by
  have hx : x ∈ o.op.operands.toList := by simp [hop, Op.operands]
  have ep : ∀ (st : St) (t : Nat), evO C (st.pad (n + i + 1)) t x = evO C st t x := fun st t => evO_same (fun _ _ => rfl) t
  have h0 := h
  simp only [opD, hop] at h
  split at h
  · rename_i hg
    simp only [evOp, hop, ep] at h
    split at h
    · rename_i v hv
      split at h
      · rename_i cs hcs
        refine cong_new (hg := hg) (v := .ptr (n + i) 0) (B := .cells false cs) (by simp [isNew, hop]) (by simp [isRd, hop]) (by simp [isWr, hop]) (fun s2 A => ?_) h0
        simp only [opD, hop, A.kept (by simp [isNew, hop]) hg, evOp, ep, A.evO hx, hv, hcs, St.new]
      · cases h
    · cases h
  · cases h

theorem evMake_same {m : Nat} {t : Nat} {k : Int} {v : V} {st st' : St} (h : evMake C st (some m) t k = some (v, st')) :
    ∃ B, ∀ st2 : St, evMake C st2 (some m) t k = some (v, (st2.new (some m) B).2) := by
  simp only [evMake] at h
  split at h
  · rename_i e' he'
    split at h
    · rename_i j hj
      cases hc : (decide (0 ≤ k) && decide (k ≤ 9223372036854775807) && decide ((j.bytes : Int) * k ≤ 281474976710656) && Nat.blt 0 j.size) with
      | false => rw [hc] at h; cases h
      | true =>
        rw [hc, cond_true] at h
        split at h
        · rename_i q hq
          cases h
          exact ⟨_, fun st2 => by simp only [evMake, he', hj, hc, cond_true, hq]; rfl⟩
        · rename_i hne
          cases h
          refine ⟨.cells false (rep k.toNat (j.zero.map .d)), fun st2 => ?_⟩
          simp only [evMake, he', hj, hc, cond_true]
          cases hq : j.k <;> first | rfl | exact absurd hq (hne _)
    · cases h
  · cases h

theorem cong_makeSlice {t : TypeId} {l c : Operand} (hop : o.op = .makeSlice t l c) (h : opD C n i fl o s = some s1) : Cong C n i fl o s s1 := by
  have hx : l ∈ o.op.operands.toList := by simp [hop, Op.operands]
  have hy : c ∈ o.op.operands.toList := by simp [hop, Op.operands]
  have ep : ∀ (st : St) (t : Nat) (x : Operand), evO C (st.pad (n + i + 1)) t x = evO C st t x := fun st t x => evO_same (fun _ _ => rfl) t
  have h0 := h
  simp only [opD, hop] at h
  split at h
  · rename_i hg
    simp only [evOp, hop, ep] at h
    split at h
    · rename_i k1 a k2 b ha hb
      split at h
      · rename_i hab
        split at h
        · rename_i v st' hm
          obtain ⟨B, hB⟩ := evMake_same hm
          refine cong_new (hg := hg) (v := v) (B := B) (by simp [isNew, hop]) (by simp [isRd, hop]) (by simp [isWr, hop]) (fun s2 A => ?_) h0
          simp only [opD, hop, A.kept (by simp [isNew, hop]) hg, evOp, ep, A.evO hx, A.evO hy, ha, hb, hab, hB]
        · cases h
      · cases h
    · cases h
  · cases h

-- ------------------------------------------------------------ readers

theorem evConv_same {a b : Nat} {x : V} {r : V × Bool} (h : evConv C s a b x = some r) (hb : ∀ i ∈ refs x, BlkEq s s2 i) : evConv C s2 a b x = some r := by
  rw [← h]
  have key : (∃ m off len cap sz, x = .mu m off len cap sz) ∨ evConv C s2 a b x = evConv C s a b x := by
    simp only [evConv]
    cases C.tt a with
    | none => exact .inr rfl
    | some ti =>
      cases C.tt b with
      | none => exact .inr rfl
      | some tj =>
        obtain ⟨k, _, _, _, _, _⟩ := tj
        cases x with
        | mu m off len cap sz => exact .inl ⟨_, _, _, _, _, rfl⟩
        | d y => cases k <;> cases y <;> first | exact .inr rfl | (rename_i q _ _; cases q <;> exact .inr rfl)
        | _ => cases k <;> exact .inr rfl
  rcases key with ⟨m, off, len, cap, sz, rfl⟩ | key
  · have hb' := hb m (by simp [refs])
    simp only [evConv] at h ⊢
    cases e1 : C.tt a with
    | none => rfl
    | some ti =>
      cases e2 : C.tt b with
      | none => rfl
      | some tj =>
        obtain ⟨k, _, _, _, _, _⟩ := tj
        obtain ⟨k', _, _, _, _, _⟩ := ti
        cases k with
        | str =>
          cases k' with
          | slice e =>
            rw [e1, e2] at h
            simp only at h ⊢
            split at h
            · rename_i q4 q5
              obtain ⟨fz2, h2⟩ := hb'.ints q5
              simp only [q4, h2, q5]
            · cases h
          | _ => rfl
        | _ => rfl
  · exact key

theorem cong_convert {a b : TypeId} {x : Operand} (hop : o.op = .convert a b x) (h : opD C n i fl o s = some s1) : Cong C n i fl o s s1 := by
  have hx : x ∈ o.op.operands.toList := by simp [hop, Op.operands]
  have h0 := h
  simp only [opD, evOp, hop] at h
  split at h
  · rename_i v hv
    split at h
    · rename_i r own hr
      refine cong_own r own (fun s2 A => ?_) h0
      simp only [opD, evOp, hop, A.evO hx, hv, evConv_same hr (A.blk (by simp [isRd, hop]) hx hv)]
    · cases h
  · cases h

theorem BlkEq.len {b : Nat} (h : BlkEq s s2 b) (hs : (getB s b).isSome = true) : blkLen (getB s2 b) = blkLen (getB s b) := by
  cases e : getB s b with
  | none => rw [e] at hs; cases hs
  | some B =>
    cases B with
    | cells fz cs => obtain ⟨_, h2⟩ := h.cells e; rw [h2]; rfl
    | ints fz k xs => obtain ⟨_, h2⟩ := h.ints e; rw [h2]; rfl

theorem evSlice_same {t : Nat} {x : V} {lo : Int} {hi mx : Option Int} {r : V × Bool} (h : evSlice C s t x lo hi mx = some r) (hb : ∀ i ∈ refs x, BlkEq s s2 i) : evSlice C s2 t x lo hi mx = some r := by
  cases x with
  | ptr m off =>
    have hb' := hb m (by simp [refs])
    simp only [evSlice] at h ⊢
    split at h
    · rename_i nn q1 q2 q3 q4 q5 q6 q7
      split at h
      · rename_i j hj
        cases e : getB s m with
        | none =>
          rw [e] at h
          simp only [blkLen, Nat.le_zero, Nat.ble_eq] at h
          cases hc : (Nat.blt 0 j.size && decide (0 ≤ lo) && decide (lo ≤ hi.getD nn) && decide (hi.getD nn ≤ (nn : Int)) && Nat.ble (off + nn * j.size) 0 && Nat.ble nn 1000000) with
          | false => rw [hc] at h; cases h
          | true =>
            rw [hc] at h
            have hc' := hc
            simp only [Bool.and_eq_true, decide_eq_true_eq, Nat.blt_eq, Nat.ble_eq] at hc'
            have h0 : off + nn * j.size = 0 := by omega
            have : Nat.ble (off + nn * j.size) (blkLen (getB s2 m)) = true := by rw [h0]; rfl
            rw [this]
            rw [h0] at hc
            have e0 : Nat.ble 0 0 = true := rfl
            rw [e0] at hc
            rw [hc]; exact h
        | some B =>
          have := hb'.len (by simp [e])
          rw [this]; exact h
      · cases h
    · cases h
  | d y =>
    rw [← h]
    simp only [evSlice]
    cases y <;> rfl
  | _ =>
    rw [← h]
    simp only [evSlice]

end Go.VM
