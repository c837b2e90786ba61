/- The machine over values: an operation, whichever it is. -/
import Derived.Test.YtjmcgdhekjkjfaaVM23
set_option linter.unusedSimpArgs false
set_option linter.unusedVariables false
namespace Go.VM
open Go

variable {P : Program} {C : Ctx} {st st' : St} {a : Act} {w : World} {own : Own} {β : Nat → Option Nat}
variable {o : Oper} {next : Act → World → Prop} {Q : Exit → Act → World → Prop}

theorem op_sound (T : TOk P C.tt) (K : CallsOk P C) (R : Rel C st a w own β) (hd : ∀ t, o.dst = some t → t < a.tmps.size) {slot : Option Nat} (hs : SlotOk st slot)
    (h : evOp C slot o st = some st') (hn : Next C st w own β a.tmps.size st' next) : o.wp P a w next Q := by
  cases hop : o.op with
  | move x => exact move_sound R hop hd h hn
  | assign x => exact assign_sound R hop hd h hn
  | pick c x y => exact pick_sound R hop hd h hn
  | alloc e => exact alloc_sound T R hop hd hs h hn
  | box e x => exact box_sound R hop hd hs h hn
  | build t ps => exact build_sound T R hop hd h hn
  | buildSlice t n ps => exact buildSlice_sound T R hop hd hs h hn
  | load t x => exact load_sound T R hop hd h hn
  | store t x y => exact store_sound T R hop hd h hn
  | nilCheck x => exact nilCheck_sound R hop hd h hn
  | binOp op t x y u => exact binOp_sound T R hop hd h hn
  | unOp op t x => exact unOp_sound R hop hd h hn
  | convert s d x => exact convert_sound T R hop hd h hn
  | makeInterface t x => exact makeInterface_sound T R hop hd h hn
  | makeFunc f first caps =>
    cases f with
    | func f => exact makeFunc_sound R hop hd h hn
    | _ => simp [evOp, hop] at h
  | makeSlice t l c => exact makeSlice_sound T R hop hd hs h hn
  | slice t x lo hi mx => exact slice_sound T R hop hd h hn
  | fieldAddr s x f => exact fieldAddr_sound T R hop hd h hn
  | field s x f => exact field_sound T R hop hd h hn
  | indexAddr t x ix => exact indexAddr_sound T R hop hd h hn
  | index t x ix => exact index_sound T R hop hd h hn
  | extract x j => exact extract_sound R hop hd h hn
  | call c =>
    cases hc : c.callee with
    | builtin b => exact builtin_sound T R hop hc hd (by simpa only [evOp, hop, hc] using h) hn
    | value f => exact call_sound K R hop hc hd h hn
    | invoke r m => simp [evOp, hop, hc] at h
  | _ => simp [evOp, hop] at h

-- ------------------------------------------------------------ a region

theorem wanted_sound {ops : Array Oper} {b : Bool} (R : Rel C st a w own β) (h : wantedV ops st o = some b) : Region.wanted o (yielded ops a.tmps) = b := by
  unfold wantedV at h
  unfold Region.wanted
  split at h
  · rename_i hg; rw [hg]; cases h; rfl
  · rename_i j want hg
    rw [hg]
    simp only
    split at h
    · rename_i oj hj
      split at h
      · rename_i t ht
        have key : yielded ops a.tmps j = (match a.tmps[t]? with | some (.bool b) => some b | _ => none) := by
          simp [yielded, hj, ht]; rfl
        split at h
        · rename_i c hl
          cases h
          have hv := inv_bool (R.tmps t _ hl)
          have hlt : a.tmps[t]? = some (.bool c) := by
            simp only [Array.getD_eq_getD_getElem?] at hv
            cases e : a.tmps[t]? with
            | none => rw [e] at hv; cases hv
            | some u => rw [e] at hv; simpa using hv
          rw [key, hlt]
          cases c <;> cases want <;> rfl
        · rename_i hl
          cases h
          have hv := R.tmps t _ hl
          generalize e : a.tmps.getD t undef = u at hv
          cases hv
          have : (match a.tmps[t]? with | some (.bool b) => some b | _ => none) = none := by
            simp only [Array.getD_eq_getD_getElem?] at e
            cases e2 : a.tmps[t]? with
            | none => rfl
            | some u => rw [e2] at e; simp at e; subst e; rfl
          rw [key, this]; rfl
        · cases h
      · cases h
    · cases h

def dstOk (n : Nat) (o : Oper) : Bool :=
  match o.dst with
  | some t => Nat.blt t n
  | none => true

theorem dstOk_lt {n : Nat} (h : dstOk n o = true) : ∀ t, o.dst = some t → t < n := by
  intro t ht
  simp only [dstOk, ht] at h
  simpa [Nat.blt_eq] using h

theorem evOps_sound (T : TOk P C.tt) (K : CallsOk P C) {ops : Array Oper} {N : Nat} : ∀ {l : List Oper} {idx : List Nat} {st st' : St} {a : Act} {w : World} {own : Own} {β : Nat → Option Nat},
    (idx.map (ops[·]?) = l.map some) → (∀ o ∈ l, dstOk N o = true) → a.tmps.size = N → Rel C st a w own β → evOps C ops l st = some st' → Next C st w own β N st' (Q .normal) →
    wpOps P ops Q idx a w
  | [], idx, st, st', a, w, own, β, hi, hd, hN, R, h, hn => by
    simp at hi
    subst hi
    simp only [evOps, Option.some.injEq] at h
    subst h
    exact hn _ _ _ _ R (Ext.refl w own) (fun _ _ _ h => h) hN
  | o :: l, idx, st, st', a, w, own, β, hi, hd, hN, R, h, hn => by
    obtain ⟨i, is, rfl⟩ : ∃ i is, idx = i :: is := by
      cases idx with
      | nil => simp at hi
      | cons i is => exact ⟨i, is, rfl⟩
    simp only [List.map_cons, List.cons.injEq] at hi
    obtain ⟨hi1, hi2⟩ := hi
    have hdo : ∀ t, o.dst = some t → t < a.tmps.size := by rw [hN]; exact dstOk_lt (hd o (List.mem_cons_self ..))
    have hdl : ∀ o ∈ l, dstOk N o = true := fun o ho => hd o (List.mem_cons_of_mem _ ho)
    simp only [wpOps, hi1]
    simp only [evOps] at h
    split at h
    · rename_i hw
      rw [wanted_sound R hw, if_pos rfl]
      left
      split at h
      · rename_i s1 h1
        refine op_sound T K R hdo (slot := none) trivial h1 (fun a1 w1 own1 β1 R1 E1 hb1 hN1 => ?_)
        refine evOps_sound T K hi2 hdl (hN1.trans hN) R1 h (fun a2 w2 own2 β2 R2 E2 hb2 hN2 => ?_)
        refine hn _ _ _ _ R2 (E1.trans E2) (fun i hi b hb => ?_) hN2
        have hb3 := hb1 i hi b hb
        refine hb2 i ?_ b hb3
        rcases Nat.lt_or_ge i s1.blocks.length with h5 | h5
        · exact h5
        · rw [R1.fresh i h5] at hb3; cases hb3
      · cases h
    · rename_i hw
      rw [wanted_sound R hw]
      simp only [Bool.false_eq_true, if_false]
      have R1 := R.put (d := o.dst) hdo (v := undef) (x := .skip) .skip
      refine evOps_sound T K hi2 hdl ((size_put a _ _).trans hN) R1 h (fun a2 w2 own2 β2 R2 E2 hb2 hN2 => ?_)
      exact hn _ _ _ _ R2 E2 (fun i hi b hb => hb2 i (by rw [blocks_put]; exact hi) b hb) hN2
    · cases h

theorem range_ops (ops : Array Oper) : (List.range ops.size).map (ops[·]?) = ops.toList.map some := by
  apply List.ext_getElem?
  intro i
  simp only [List.getElem?_map]
  rcases Nat.lt_or_ge i ops.size with h | h
  · simp [h]
  · simp [h]

end Go.VM
