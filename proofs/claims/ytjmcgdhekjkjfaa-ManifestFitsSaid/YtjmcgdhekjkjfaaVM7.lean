/- The machine over values: operations that read, make and hand on. -/
import Derived.Test.YtjmcgdhekjkjfaaVM6
set_option linter.unusedSimpArgs false
set_option linter.unusedVariables false
namespace Go.VM
open Go

variable {P : Program} {C : Ctx} {st st' : St} {a : Act} {w : World} {own : Own} {β : Nat → Option Nat}
variable {o : Oper} {next : Act → World → Prop} {Q : Exit → Act → World → Prop}

theorem Next.of {s1 : St} {w1 : World} {own1 : Own} {β1 : Nat → Option Nat} (E : Ext w own w1 own1) (hlen : st.blocks.length ≤ s1.blocks.length)
    (hβ : ∀ i, i < st.blocks.length → ∀ b, β i = some b → β1 i = some b) {N : Nat} {s2 : St} (h : Next C st w own β N s2 next) : Next C s1 w1 own1 β1 N s2 next :=
  fun a' w' own' β' R' E' hβ' hN => h a' w' own' β' R' (E.trans E') (fun i hi b hb => hβ' i (Nat.lt_of_lt_of_le hi hlen) b (hβ i hi b hb)) hN

theorem next_pass (R : Rel C st a w own β) (hd : ∀ t, o.dst = some t → t < a.tmps.size) {x : Operand} {v : V} {t : Nat} (hx : evO C st t x = some v) (yes : Bool)
    (hn : Next C st w own β a.tmps.size ((st.put o.dst v).pass x o.dst yes) next) : next (a.put o.dst (a.eval x)) w := by
  have R1 := R.put hd (evO_sound R hx)
  unfold St.pass at hn
  split at hn
  · rename_i s d hdst
    have hdd := hd d hdst
    obtain ⟨own', R2, E2⟩ := R1.give (p := .t s) (q := .t d) (by
      intro hp x' v' ⟨h1, h2⟩
      have hsd : s ≠ d := by
        intro e
        rw [hdst] at hp
        have := (hasPl_drop hp).2
        simp [Pl.ofTmp, e] at this
      rw [hdst] at h1 h2 ⊢
      simp only [St.put, look_ins_same, Option.some.injEq] at h1
      rw [tmps_put_some, getD_set_same _ _ _ hdd] at h2
      subst h1
      refine ⟨?_, ?_⟩
      · simp only [St.put, look_ins_other hsd]; exact hx
      · rw [h2, tmps_put_some, getD_set_other _ _ hsd]; rfl) (fun i j h => by cases h)
    exact hn _ _ _ _ R2 E2 (fun _ _ _ h => h) (size_put a _ _)
  · exact hn _ _ _ _ R1 (Ext.refl w own) (fun _ _ _ h => h) (size_put a _ _)

def mvC (s d : Nat) : Pl → Pl
  | .c u j => if u = s then .c d j else .c u j
  | p => p

theorem hasPl_giveC {s d : Nat} {q : Pl} : ∀ {l : List Pl}, hasPl q (giveC s d l) = true → ∃ p, hasPl p l = true ∧ mvC s d p = q
  | [], h => by simp [giveC, hasPl] at h
  | r :: l, h => by
    have key : ∀ r', (giveC s d (r :: l)) = r' :: giveC s d l → mvC s d r = r' →
        ∃ p, hasPl p (r :: l) = true ∧ mvC s d p = q := by
      intro r' e1 e2
      rw [e1] at h
      simp only [hasPl] at h
      cases e : Pl.beq q r' with
      | true => exact ⟨r, by simp [hasPl, show Pl.beq r r = true from Pl.beq_iff.2 rfl], by rw [e2]; exact (Pl.beq_iff.1 e).symm⟩
      | false =>
        rw [e] at h
        obtain ⟨p, h1, h2⟩ := hasPl_giveC h
        exact ⟨p, hasPl_iff.2 (List.mem_cons_of_mem _ (hasPl_iff.1 h1)), h2⟩
    cases r with
    | t u => exact key _ rfl rfl
    | b u j => exact key _ rfl rfl
    | c u j =>
      refine key (match Nat.beq u s with | true => .c d j | false => .c u j) rfl ?_
      by_cases e : u = s
      · subst e; simp [mvC]
      · simp [mvC, e, nbeq_false e]

theorem next_passTup (R : Rel C st a w own β) (hd : ∀ t, o.dst = some t → t < a.tmps.size) {x : Operand} {v : V} {t : Nat} (hx : evO C st t x = some v)
    (hn : Next C st w own β a.tmps.size ((st.put o.dst v).passTup x o.dst) next) : next (a.put o.dst (a.eval x)) w := by
  have R1 := R.put hd (evO_sound R hx)
  unfold St.passTup at hn
  split at hn
  · rename_i s d hdst
    have hdd := hd d hdst
    rw [hdst] at hn R1 ⊢
    have R2 := R1.giveF (mvC s d) (giveC s d (st.put (some d) v).owns) (by
      intro q hq
      obtain ⟨p, hp, hf⟩ := hasPl_giveC hq
      refine ⟨p, hp, hf, ?_⟩
      intro x' v' hv
      cases p with
      | t u => simp only [mvC] at hf; subst hf; exact hv
      | b u j => simp only [mvC] at hf; subst hf; exact hv
      | c u j =>
        by_cases e : u = s
        · subst e
          simp only [mvC, if_true] at hf
          subst hf
          have hsd : u ≠ d := by
            intro e
            have := (hasPl_drop hp).2
            simp [Pl.ofTmp, e] at this
          obtain ⟨vs, arr, h1, h2, h3, h4⟩ := hv
          simp only [St.put, look_ins_same, Option.some.injEq] at h1
          rw [tmps_put_some, getD_set_same _ _ _ hdd] at h3
          refine ⟨vs, arr, ?_, h2, ?_, h4⟩
          · simp only [St.put, look_ins_other hsd]; rw [← h1]; exact hx
          · rw [tmps_put_some, getD_set_other _ _ hsd]; exact h3
        · simp only [mvC, e, if_false] at hf
          subst hf; exact hv) (by
      intro i j h
      obtain ⟨p, hp, hf⟩ := hasPl_giveC h
      cases p with
      | t u => simp [mvC] at hf
      | b u k => simp only [mvC, Pl.b.injEq] at hf; rw [← hf.1, ← hf.2] at *; exact R1.ob _ _ hp
      | c u k => by_cases e : u = s <;> simp [mvC, e] at hf)
    exact hn _ _ _ _ R2 (ext_relabel _) (fun _ _ _ h => h) (size_put a _ _)
  · exact hn _ _ _ _ R1 (Ext.refl w own) (fun _ _ _ h => h) (size_put a _ _)

-- ------------------------------------------------------------ the shapes of what is told

section
variable {v : Value}
theorem inv_d {x : D} (h : RepV w own β v (.d x)) : RepD w own v x := by
  cases h with | d _ _ h => exact h
theorem inv_int {k : IntKind} {n : Int} (h : RepV w own β v (.d (.int k n))) : v = .int k n ∧ k.wrap n = n := by
  cases h with | d _ _ h => cases h with | int _ _ h => exact ⟨rfl, h⟩
theorem inv_bool {b : Bool} (h : RepV w own β v (.d (.bool b))) : v = .bool b := by
  cases h with | d _ _ h => cases h; rfl
theorem inv_str {l : List Int} (h : RepV w own β v (.d (.str l))) : ∃ s, v = .string s ∧ bytesI s = l ∧ l.length ≤ maxLen := by
  cases h with | d _ _ h => cases h with | str s _ h hl => exact ⟨s, rfl, h, hl⟩
theorem inv_ptr {i off : Nat} (h : RepV w own β v (.ptr i off)) : ∃ b, β i = some b ∧ v = .pointer (some ⟨b, off, none⟩) := by
  cases h with | ptr _ _ b h => exact ⟨b, h, rfl⟩
theorem inv_tup {vs : List V} (h : RepV w own β v (.tup vs)) : ∃ arr, v = .tuple arr ∧ arr.size = vs.length ∧ ∀ (j : Nat) (x : V), vs[j]? = some x → RepV w own β (arr.getD j undef) x := by
  cases h with | tup arr _ hs hr => exact ⟨arr, rfl, hs, hr⟩
theorem inv_fp {cs : List D} (h : RepV w own β v (.d (.fp cs))) : ∃ b o, v = .pointer (some ⟨b, o, none⟩) ∧ RepC w own b o cs := by
  cases h with | d _ _ h => cases h with | fp b o _ val h hr => exact ⟨b, o, rfl, fun j x hx => ⟨val j, h j x hx, hr j x hx⟩⟩
end

theorem wrap_i64_nat {n : Nat} (h : n ≤ maxLen) : IntKind.i64.wrap (n : Int) = n := by
  unfold maxLen at h
  simp only [IntKind.wrap, IntKind.signed, IntKind.bits]
  have : (n : Int) % 2 ^ 64 = n := Int.emod_eq_of_lt (by omega) (by omega)
  simp only [this]
  split
  · rename_i h'; simp at h'; omega
  · rfl

-- ------------------------------------------------------------ move, assign, pick, extract

theorem move_sound (R : Rel C st a w own β) {x : Operand} (hop : o.op = .move x) (hd : ∀ t, o.dst = some t → t < a.tmps.size) {slot : Option Nat}
    (h : evOp C slot o st = some st') (hn : Next C st w own β a.tmps.size st' next) : o.wp P a w next Q := by
  simp only [evOp, hop] at h
  have hr : (execOp a.eval o).run P w = .ok (.value (a.eval x)) w := by simp [execOp, hop]
  split at h
  · rename_i v hv
    split at h
    · cases h; exact wp_value hr (next_passTup R hd hv hn)
    · cases h; exact wp_value hr (next_pass R hd hv _ hn)
  · cases h

theorem assign_sound (R : Rel C st a w own β) {x : Operand} (hop : o.op = .assign x) (hd : ∀ t, o.dst = some t → t < a.tmps.size) {slot : Option Nat}
    (h : evOp C slot o st = some st') (hn : Next C st w own β a.tmps.size st' next) : o.wp P a w next Q := by
  simp only [evOp, hop] at h
  have hr : (execOp a.eval o).run P w = .ok (.value (a.eval x)) w := by simp [execOp, hop]
  split at h
  · rename_i v hv
    cases h; exact wp_value hr (next_pass R hd hv _ hn)
  · cases h

theorem pick_sound (R : Rel C st a w own β) {c x y : Operand} (hop : o.op = .pick c x y) (hd : ∀ t, o.dst = some t → t < a.tmps.size) {slot : Option Nat}
    (h : evOp C slot o st = some st') (hn : Next C st w own β a.tmps.size st' next) : o.wp P a w next Q := by
  simp only [evOp, hop] at h
  split at h
  · rename_i b hb
    have hc := inv_bool (evO_sound R hb)
    split at h
    · rename_i v hv
      cases h
      cases b with
      | true =>
        have hr : (execOp a.eval o).run P w = .ok (.value (a.eval x)) w := by simp [execOp, hop, hc, asBool]
        exact wp_value hr (next_put R hd (evO_sound R hv) hn)
      | false =>
        have hr : (execOp a.eval o).run P w = .ok (.value (a.eval y)) w := by simp [execOp, hop, hc, asBool]
        exact wp_value hr (next_put R hd (evO_sound R hv) hn)
    · cases h
  · cases h

theorem extract_sound (R : Rel C st a w own β) {x : Operand} {j : Nat} (hop : o.op = .extract x j) (hd : ∀ t, o.dst = some t → t < a.tmps.size) {slot : Option Nat}
    (h : evOp C slot o st = some st') (hn : Next C st w own β a.tmps.size st' next) : o.wp P a w next Q := by
  simp only [evOp, hop] at h
  split at h
  · rename_i vs hvs
    obtain ⟨arr, ha, hs, hr⟩ := inv_tup (evO_sound R hvs)
    split at h
    · rename_i v hv
      have hlt : j < arr.size := by
        rw [hs]; exact (List.getElem?_eq_some_iff.1 hv).1
      have hrun : (execOp a.eval o).run P w = .ok (.value (arr.getD j undef)) w := by
        simp [execOp, hop, Instr.extract, ha, Array.getD, hlt]
      have hval := hr j v hv
      refine wp_value hrun ?_
      split at h
      · rename_i s d hdst
        cases h
        have hdd := hd d hdst
        have R1 := R.put hd hval
        obtain ⟨own', R2, E2⟩ := R1.give (p := .c s j) (q := .t d) (by
          intro hp x' v' ⟨h1, h2⟩
          have hsd : s ≠ d := by
            intro e
            rw [hdst] at hp
            have := (hasPl_drop hp).2
            simp [Pl.ofTmp, e] at this
          rw [hdst] at h1 h2 ⊢
          simp only [St.put, look_ins_same, Option.some.injEq] at h1
          rw [tmps_put_some, getD_set_same _ _ _ hdd] at h2
          subst h1
          refine ⟨vs, arr, ?_, hv, ?_, h2⟩
          · simp only [St.put, look_ins_other hsd]; exact hvs
          · rw [tmps_put_some, getD_set_other _ _ hsd]; exact ha) (fun i j h => by cases h)
        exact hn _ _ _ _ R2 E2 (fun _ _ _ h => h) (size_put a _ _)
      · cases h; exact next_put R hd hval hn
    · cases h
  · cases h

-- ------------------------------------------------------------ cells of values

/-- Cells as they lie in a row. -/
def RepL (w : World) (own : Own) (β : Nat → Option Nat) (arr : Array Value) (cs : List V) : Prop :=
  arr.size = cs.length ∧ (∀ (j : Nat), j < arr.size → (arr.getD j undef).oneCell' = true) ∧ ∀ (j : Nat) (x : V), cs[j]? = some x → RepV w own β (arr.getD j undef) x

theorem one_of_rep {v : Value} {x : D} (h : RepD w own v x) (hx : ∀ cs, x ≠ .agg cs) : v.oneCell' = true := by
  cases h <;> first | rfl | exact absurd rfl (hx _)

theorem cells_of_one {v : Value} (h : v.oneCell' = true) : v.cells = #[v] := by
  cases v <;> first | rfl | cases h

theorem repL_one {v : Value} {x : V} (h : RepV w own β v x) (h1 : v.oneCell' = true) : RepL w own β v.cells [x] := by
  rw [cells_of_one h1]
  refine ⟨rfl, fun j hj => ?_, fun j y hy => ?_⟩
  · have : j = 0 := by simpa using hj
    subst this; simpa using h1
  · cases j with
    | zero => simp at hy; subst hy; simpa using h
    | succ j => simp at hy

theorem cellsV_sound {v : Value} {x : V} {cs : List V} (h : RepV w own β v x) (hc : cellsV x = some cs) : RepL w own β v.cells cs := by
  unfold cellsV at hc
  split at hc
  · cases hc
    cases h with | d _ _ h => cases h with | agg arr ds hs h1 hr =>
      refine ⟨by simpa [Value.cells] using hs, h1, fun j y hy => ?_⟩
      simp only [List.getElem?_map, Option.map_eq_some_iff] at hy
      obtain ⟨d, h3, rfl⟩ := hy
      exact .d _ _ (hr j d h3)
  · cases hc
    cases h with | agg arr _ hs h1 hr => exact ⟨hs, h1, hr⟩
  · rename_i d hne
    cases hc
    cases h with | d _ _ hd =>
      exact repL_one (.d _ _ hd) (one_of_rep hd (fun cs e => hne cs e))
  · cases hc; cases h with | ptr _ _ b hb => exact repL_one (.ptr _ _ b hb) rfl
  · cases hc; cases h with | mu _ _ _ _ _ b a hb h0 h1 h2 h3 h4 => exact repL_one (.mu _ _ _ _ _ b a hb h0 h1 h2 h3 h4) rfl
  · cases hc; cases h; exact repL_one (.gp _ _) rfl
  · cases hc; cases h with | fn _ arr _ hs hr => exact repL_one (.fn _ arr _ hs hr) rfl
  · cases hc

theorem allD_some : ∀ {l : List V} {ds : List D}, allD l = some ds → l = ds.map .d
  | [], ds, h => by simp [allD] at h; subst h; rfl
  | v :: l, ds, h => by
    cases v with
    | d x =>
      simp only [allD] at h
      split at h
      · rename_i ds' h'
        cases h
        simp [allD_some h']
      · cases h
    | _ => simp [allD] at h

theorem mkAgg_sound {arr : Array Value} {cs : List V} (h : RepL w own β arr cs) : RepV w own β (.agg arr) (mkAgg cs) := by
  unfold mkAgg
  split
  · rename_i ds hds
    have := allD_some hds
    subst this
    refine .d _ _ (.agg arr ds (by simpa using h.1) h.2.1 (fun j x hx => ?_))
    exact inv_d (h.2.2 j (.d x) (by simp [hx]))
  · exact .agg arr cs h.1 h.2.1 h.2.2

theorem Sub.ofExt {w' : World} {own' : Own} (E : Ext w own w' own') : Sub w own w' own' := E.sub

theorem RepL.mono {w' : World} {own' : Own} {β' : Nat → Option Nat} {arr : Array Value} {cs : List V} (s : Sub w own w' own') (hw : Wide w w') (hβ : ∀ i b, β i = some b → β' i = some b)
    (h : RepL w own β arr cs) : RepL w' own' β' arr cs := ⟨h.1, h.2.1, fun j x hx => (h.2.2 j x hx).mono s hw hβ⟩

-- ------------------------------------------------------------ alloc, box

/-- A new block with cells, and a pointer to it. -/
theorem next_new (R : Rel C st a w own β) {slot : Option Nat} (hs : SlotOk st slot) (hd : ∀ t, o.dst = some t → t < a.tmps.size) {arr : Array Value} {e : TypeId} {cs : List V}
    (hc : RepL w own β arr cs) {v : V} (hv : ∀ own' β', β' (st.new slot (.cells false cs)).1 = some w.heap.size →
      RepV (w.alloc (.cells arr e (0, 0))) own' β' (.pointer (some ⟨w.heap.size, 0, none⟩)) v)
    (hn : Next C st w own β a.tmps.size ((st.new slot (.cells false cs)).2.put o.dst v) next) :
    next (a.put o.dst (.pointer (some ⟨w.heap.size, 0, none⟩))) (w.alloc (.cells arr e (0, 0))) := by
  have R1 := R.newB hs (B := .cells false cs) (arr := arr) (e := e) (fun own' β' hβ hsub ho =>
    .cells false cs arr e (heap_alloc_new w _) hc.1 hc.2.1 (fun j x hx => (hc.2.2 j x hx).mono hsub (wide_alloc w _) hβ) (by simpa using ho))
  have R2 := R1.put (d := o.dst) hd (hv _ _ (by simp [setβ]))
  refine hn _ _ _ _ R2 (ext_alloc w own _ _ R.plain_lt) (fun i hi b hb => ?_) (size_put a _ _)
  exact le_setβ (R.slotNone hs _) i b hb

theorem alloc_sound (T : TOk P C.tt) (R : Rel C st a w own β) {e : TypeId} (hop : o.op = .alloc e) (hd : ∀ t, o.dst = some t → t < a.tmps.size) {slot : Option Nat} (hs : SlotOk st slot)
    (h : evOp C slot o st = some st') (hn : Next C st w own β a.tmps.size st' next) : o.wp P a w next Q := by
  simp only [evOp, hop] at h
  split at h
  · rename_i i hi
    cases h
    obtain ⟨info, d, z, r⟩ := T.get hi
    obtain ⟨z1, z2⟩ := zcells_sound r.zc w own
    simp only [getD_toList, Array.length_toList] at z1 z2
    have hr : (execOp a.eval o).run P w = .ok (.value (.pointer (some ⟨w.heap.size, 0, none⟩))) (w.alloc (.cells z.cells e (0, 0))) := by
      simp [execOp, hop, Instr.alloc, r.run_zero, newVar, newRow]
    refine wp_value hr (next_new R hs hd ⟨by simpa using z1, fun j hj => ?_, fun j x hx => ?_⟩ (fun own' β' hβ => .ptr _ _ _ hβ) hn)
    · have : j < i.zero.length := by omega
      exact (z2 j i.zero[j] (by simp [this])).2
    · simp only [List.getElem?_map, Option.map_eq_some_iff] at hx
      obtain ⟨d, h3, rfl⟩ := hx
      exact .d _ _ (z2 j d h3).1
  · cases h

theorem box_sound (R : Rel C st a w own β) {e : TypeId} {x : Operand} (hop : o.op = .box e x) (hd : ∀ t, o.dst = some t → t < a.tmps.size) {slot : Option Nat} (hs : SlotOk st slot)
    (h : evOp C slot o st = some st') (hn : Next C st w own β a.tmps.size st' next) : o.wp P a w next Q := by
  simp only [evOp, hop] at h
  split at h
  · rename_i v hv
    split at h
    · rename_i cs hcs
      cases h
      have hc := cellsV_sound (evO_sound R hv) hcs
      have hr : (execOp a.eval o).run P w = .ok (.value (.pointer (some ⟨w.heap.size, 0, none⟩))) (w.alloc (.cells (a.eval x).cells e (0, 0))) := by
        simp [execOp, hop, Instr.box, newVar, newRow]
      exact wp_value hr (next_new R hs hd hc (fun own' β' hβ => .ptr _ _ _ hβ) hn)
    · cases h
  · cases h

end Go.VM
