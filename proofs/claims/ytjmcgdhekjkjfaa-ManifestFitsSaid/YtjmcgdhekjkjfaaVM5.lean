/- The machine over values: the relation, kept. -/
import Derived.Test.YtjmcgdhekjkjfaaVM4
set_option linter.unusedSimpArgs false
set_option linter.unusedVariables false
namespace Go.VM
open Go

variable {C : Ctx} {st : St} {a : Act} {w : World} {own : Own} {β : Nat → Option Nat}

theorem tmps_put_some (a : Act) (t : Nat) (v : Value) : (a.put (some t) v).tmps = a.tmps.setIfInBounds t v := rfl
theorem size_put (a : Act) (d : Option Nat) (v : Value) : (a.put d v).tmps.size = a.tmps.size := by
  cases d <;> simp [Act.put]
theorem defers_put (a : Act) (d : Option Nat) (v : Value) : (a.put d v).defers = a.defers := by
  cases d <;> rfl
theorem getB_put (st : St) (d : Option Nat) (x : V) (i : Nat) : getB (st.put d x) i = getB st i := by
  cases d <;> rfl
theorem blocks_put (st : St) (d : Option Nat) (x : V) : (st.put d x).blocks = st.blocks := by
  cases d <;> rfl

/-- A value goes into a slot. -/
theorem Rel.put (R : Rel C st a w own β) {d : Option Nat} {x : V} {v : Value} (hd : ∀ t, d = some t → t < a.tmps.size) (hv : RepV w own β v x) :
    Rel C (st.put d x) (a.put d v) w own β := by
  cases d with
  | none => exact R
  | some t =>
    have ht := hd t rfl
    refine ⟨R.defers, ?_, R.blocks, R.fresh, R.gone, ?_, fun i j h => R.ob i j (hasPl_drop h).1, R.plain, R.glob⟩
    · intro s y hs
      by_cases e : s = t
      · subst e
        simp only [St.put, look_ins_same, Option.some.injEq] at hs
        subst hs
        rw [tmps_put_some, getD_set_same _ _ _ ht]; exact hv
      · simp only [St.put, look_ins_other e] at hs
        rw [tmps_put_some, getD_set_other _ _ e]; exact R.tmps s y hs
    · intro p hp y u hy
      simp only [St.put] at hp
      obtain ⟨h1, h2⟩ := hasPl_drop hp
      refine R.owns p h1 y u ?_
      cases p with
      | t s =>
        have e : s ≠ t := fun e => by simp [Pl.ofTmp, e] at h2
        obtain ⟨h3, h4⟩ := hy
        simp only [St.put, look_ins_other e] at h3
        exact ⟨h3, by rw [h4, tmps_put_some, getD_set_other _ _ e]⟩
      | c s j =>
        have e : s ≠ t := fun e => by simp [Pl.ofTmp, e] at h2
        obtain ⟨vs, arr, h3, h4, h5, h6⟩ := hy
        simp only [St.put, look_ins_other e] at h3
        rw [tmps_put_some, getD_set_other _ _ e] at h5
        exact ⟨vs, arr, h3, h4, h5, h6⟩
      | b i j => exact hy

/-- Fewer places own. -/
theorem Rel.disown (R : Rel C st a w own β) (f : Pl → Bool) : Rel C (st.disown f) a w own β :=
  ⟨R.defers, R.tmps, R.blocks, R.fresh, R.gone, fun p hp x v h => R.owns p (hasPl_drop hp).1 x v (by cases p <;> exact h), fun i j h => R.ob i j (hasPl_drop h).1, R.plain, R.glob⟩

def relabel (f : Pl → Pl) (own : Own) : Own := fun b => match own b with
  | some (.pl r, n) => some (.pl (f r), n)
  | x => x

theorem okc_relabel {f : Pl → Pl} {own : Own} {b o : Nat} : okc (relabel f own) b o ↔ okc own b o := by
  unfold okc relabel
  cases h : own b with
  | none => simp
  | some r =>
    obtain ⟨ow, n⟩ := r
    cases ow <;> simp

theorem fc_relabel {f : Pl → Pl} {b o : Nat} {v : Value} : Fc w (relabel f own) b o v ↔ Fc w own b o v :=
  ⟨fun h => ⟨h.cell, okc_relabel.1 h.ok, h.one⟩, fun h => ⟨h.cell, okc_relabel.2 h.ok, h.one⟩⟩

theorem sub_relabel (f : Pl → Pl) : Sub w own w (relabel f own) := fun _ _ _ h => fc_relabel.2 h

theorem ext_relabel (f : Pl → Pl) : Ext w own w (relabel f own) where
  os := rfl
  tape := rfl
  output := rfl
  size := Nat.le_refl _
  free b _ h := ⟨rfl, by simp [relabel, h]⟩
  part b ow n _ h := ⟨fun _ _ => rfl, fun ow' n' h' => by
    simp only [relabel, h] at h'
    cases ow <;> simp at h' <;> omega⟩
  wide := Wide.refl w
  far b n h := ⟨rfl, by simp [relabel, h]⟩

theorem relabel_bl {f : Pl → Pl} {own : Own} {b i n : Nat} : relabel f own b = some (.bl i, n) ↔ own b = some (.bl i, n) := by
  unfold relabel
  cases h : own b with
  | none => simp
  | some r =>
    obtain ⟨ow, m⟩ := r
    cases ow <;> simp

theorem relabel_none {f : Pl → Pl} {own : Own} {b : Nat} : relabel f own b = none ↔ own b = none := by
  unfold relabel
  cases h : own b with
  | none => simp
  | some r =>
    obtain ⟨ow, m⟩ := r
    cases ow <;> simp

theorem BlkRel.mono {w' : World} {own' : Own} {β' : Nat → Option Nat} {i b : Nat} {B : Blk} (s : Sub w own w' own') (hw : Wide w w') (hβ : ∀ i b, β i = some b → β' i = some b)
    (hh : w'.heap[b]? = w.heap[b]?) (ho : own' b = own b) (h : BlkRel w own β i b B) : BlkRel w' own' β' i b B := by
  cases h with
  | cells fz cs arr e h1 h2 h3 h4 h5 => exact .cells fz cs arr e (hh.trans h1) h2 h3 (fun j x hx => (h4 j x hx).mono s hw hβ) (ho.trans h5)
  | ints fz k xs arr e h1 h2 h3 h4 => exact .ints fz k xs arr e (hh.trans h1) h2 h3 (ho.trans h4)

theorem BlkRel.relabel {f : Pl → Pl} {i b : Nat} {B : Blk} (h : BlkRel w own β i b B) : BlkRel w (relabel f own) β i b B := by
  cases h with
  | cells fz cs arr e h1 h2 h3 h4 h5 =>
    refine .cells fz cs arr e h1 h2 h3 (fun j x hx => (h4 j x hx).mono (sub_relabel f) (Wide.refl w) (fun _ _ h => h)) ?_
    cases fz with
    | true => simp only [if_true] at h5 ⊢; exact relabel_none.2 h5
    | false => exact relabel_bl.2 h5
  | ints fz k xs arr e h1 h2 h3 h5 =>
    refine .ints fz k xs arr e h1 h2 h3 ?_
    cases fz with
    | true => simp only [if_true] at h5 ⊢; exact relabel_none.2 h5
    | false => exact relabel_bl.2 h5

theorem RepC.mono {w' : World} {own' : Own} {b o : Nat} {cs : List D} (s : Sub w own w' own') (h : RepC w own b o cs) : RepC w' own' b o cs :=
  fun j x hx => let ⟨v, h1, h2⟩ := h j x hx; ⟨v, s _ _ _ h1, h2.mono s⟩

/-- Places go over to others, where the same values stand. -/
theorem Rel.giveF (R : Rel C st a w own β) (f : Pl → Pl) (l : List Pl)
    (hl : ∀ q, hasPl q l = true → ∃ p, hasPl p st.owns = true ∧ f p = q ∧ ∀ x v, ValAt st a w β q x v → ValAt st a w β p x v)
    (hq : ∀ i j, hasPl (.b i j) l = true → ∃ B, getB st i = some B) :
    Rel C { st with owns := l } a w (relabel f own) β := by
  refine ⟨R.defers, ?_, ?_, R.fresh, R.gone, ?_, hq, ?_, ?_⟩
  · exact fun t x h => (R.tmps t x h).mono (sub_relabel f) (Wide.refl w) (fun _ _ h => h)
  · exact fun i B h => let ⟨b, h1, h2⟩ := R.blocks i B h; ⟨b, h1, h2.relabel⟩
  · intro q hq x v hv
    have hv' : ValAt st a w β q x v := by cases q <;> exact hv
    obtain ⟨p, hp, hf, hpq⟩ := hl q hq
    intro sz hsz
    rcases R.owns p hp x v (hpq x v hv') sz hsz with h0 | ⟨b, o, len, cap, h1, h2⟩
    · exact .inl h0
    · refine .inr ⟨b, o, len, cap, h1, ?_⟩
      rcases h2 with h2 | ⟨h2, h3, h4⟩
      · exact .inl h2
      · exact .inr ⟨h2, by simp [VM.relabel, h3, hf], h4⟩
  · intro b r h
    cases ho : own b with
    | none => rw [relabel_none.2 ho] at h; cases h
    | some r' => exact R.plain b r' ho
  · exact fun g cs h => (R.glob g cs h).mono (sub_relabel f)

/-- What is owned at p is owned at q, where the same value stands. -/
theorem Rel.give (R : Rel C st a w own β) {p q : Pl} (hpq : hasPl p st.owns = true → ∀ x v, ValAt st a w β q x v → ValAt st a w β p x v)
    (hq : ∀ i j, q = .b i j → ∃ B, getB st i = some B) :
    ∃ own', Rel C (st.give p q) a w own' β ∧ Ext w own w own' := by
  unfold St.give
  cases hp : hasPl p st.owns with
  | false => exact ⟨own, R, Ext.refl w own⟩
  | true =>
    refine ⟨relabel (fun r => if r = p then q else r) own, ?_, ext_relabel _⟩
    refine R.giveF _ _ (fun r hr => ?_) (fun i j hr => ?_)
    · simp only [hasPl] at hr
      by_cases e : r = q
      · subst e; exact ⟨p, hp, by simp, hpq hp⟩
      · have hne : Pl.beq r q = false := by
          cases h : Pl.beq r q with
          | false => rfl
          | true => exact absurd (Pl.beq_iff.1 h) e
        rw [hne] at hr
        obtain ⟨h1, h2⟩ := hasPl_drop hr
        have e2 : r ≠ p := fun e2 => by
          rw [e2, show Pl.beq p p = true from Pl.beq_iff.2 rfl] at h2; cases h2
        exact ⟨r, h1, by simp [e2], fun _ _ h => h⟩
    · simp only [hasPl] at hr
      cases e : Pl.beq (.b i j) q with
      | true => exact hq i j (Pl.beq_iff.1 e).symm
      | false => rw [e] at hr; exact R.ob i j (hasPl_drop hr).1

/-- A slot with no room behind it, or none, owns it. -/
theorem Rel.ownTmp (R : Rel C st a w own β) {t : Nat} (h : ∀ x, look t st.tmps = some x → OwnsAt w own (.t t) (a.tmps.getD t undef) x) :
    Rel C { st with owns := .t t :: st.owns } a w own β := by
  refine ⟨R.defers, R.tmps, R.blocks, R.fresh, R.gone, ?_, fun i j h => R.ob i j (by simpa [hasPl, Pl.beq] using h), R.plain, R.glob⟩
  intro p hp x v hv
  have hv' : ValAt st a w β p x v := by cases p <;> exact hv
  simp only [hasPl] at hp
  cases e : Pl.beq p (.t t) with
  | true =>
    have := Pl.beq_iff.1 e
    subst this
    obtain ⟨h1, h2⟩ := hv'
    rw [h2]; exact h x h1
  | false => rw [e] at hp; exact R.owns p hp x v hv'

/-- The world goes on and leaves what is told of it. -/
theorem Rel.ext {w' : World} {own' : Own} (R : Rel C st a w own β) (E : Ext w own w' own')
    (hb : ∀ i B b, getB st i = some B → β i = some b → w'.heap[b]? = w.heap[b]? ∧ own' b = own b)
    (ho : ∀ b p n, own b = some (.pl p, n) → own' b = some (.pl p, n))
    (hp : ∀ b r, own' b = some r → ∃ arr e, w'.heap[b]? = some (.cells arr e (0, 0))) : Rel C st a w' own' β where
  defers := R.defers
  tmps t x h := (R.tmps t x h).mono E.sub E.wide (fun _ _ h => h)
  blocks i B h := by
    obtain ⟨b, h1, h2⟩ := R.blocks i B h
    exact ⟨b, h1, h2.mono E.sub E.wide (fun _ _ h => h) (hb i B b h h1).1 (hb i B b h h1).2⟩
  fresh := R.fresh
  gone := R.gone
  owns p hp x v hv := by
    have hv' : ValAt st a w β p x v := by
      cases p with
      | t t => exact hv
      | c t j => exact hv
      | b i j =>
        obtain ⟨fz, cs, b, h1, h2, h3, h4⟩ := hv
        exact ⟨fz, cs, b, h1, h2, h3, by rw [← h4]; exact (cell_of_heap (hb i _ b h1 h3).1 j).symm⟩
    intro sz hsz
    rcases R.owns p hp x v hv' sz hsz with h0 | ⟨b, o, len, cap, h1, h2⟩
    · exact .inl h0
    · refine .inr ⟨b, o, len, cap, h1, ?_⟩
      rcases h2 with h2 | ⟨h2, h3, arr, e, h4, h5⟩
      · exact .inl h2
      · obtain ⟨arr', h6, h7⟩ := E.wide b arr e h4
        exact .inr ⟨h2, ho _ _ _ h3, arr', e, h6, h7.trans h5⟩
  ob := R.ob
  plain := hp
  glob g cs h := (R.glob g cs h).mono E.sub

-- ------------------------------------------------------------ a new block

theorem heap_alloc_old (w : World) (o : Obj) {b : Nat} (h : b < w.heap.size) : (w.alloc o).heap[b]? = w.heap[b]? := by
  show (w.heap.push o)[b]? = _
  rw [Array.getElem?_push, if_neg (by omega)]
theorem heap_alloc_new (w : World) (o : Obj) : (w.alloc o).heap[w.heap.size]? = some o := by
  show (w.heap.push o)[w.heap.size]? = _
  simp

def Own.set (own : Own) (b : Nat) (r : Option (Ow × Nat)) : Own := fun c => if c = b then r else own c

theorem lt_of_heap {w : World} {b : Nat} {o : Obj} (h : w.heap[b]? = some o) : b < w.heap.size := by
  rcases Nat.lt_or_ge b w.heap.size with h' | h'
  · exact h'
  · rw [Array.getElem?_eq_none h'] at h; cases h

theorem wide_alloc (w : World) (o : Obj) : Wide w (w.alloc o) := fun b arr _ h => ⟨arr, by rw [heap_alloc_old w o (lt_of_heap h)]; exact h, rfl⟩

theorem ext_alloc (w : World) (own : Own) (o : Obj) (r : Option (Ow × Nat)) (hp : ∀ b s, own b = some s → b < w.heap.size) : Ext w own (w.alloc o) (own.set w.heap.size r) where
  os := rfl
  tape := rfl
  output := rfl
  size := by simp
  free b hb h := ⟨heap_alloc_old w o hb, by simp [Own.set, Nat.ne_of_lt hb, h]⟩
  part b ow n hb h := ⟨fun p _ => cell_of_heap (heap_alloc_old w o hb) p, fun ow' n' h' => by
    simp [Own.set, Nat.ne_of_lt hb, h] at h'; omega⟩
  wide := wide_alloc w o
  far b n h := ⟨heap_alloc_old w o (hp b _ h), by simp [Own.set, Nat.ne_of_lt (hp b _ h), h]⟩

theorem ext_drew (w : World) (own : Own) : Ext w own w.drew own :=
  ⟨rfl, rfl, rfl, Nat.le_refl _, fun _ _ h => ⟨rfl, h⟩, fun _ _ _ _ h => ⟨fun _ _ => rfl, fun _ _ h' => by rw [h] at h'; cases h'; exact Nat.le_refl _⟩, Wide.refl w, fun _ _ h => ⟨rfl, h⟩⟩

theorem Rel.plain_lt (R : Rel C st a w own β) : ∀ b s, own b = some s → b < w.heap.size := fun b s h => by
  obtain ⟨arr, e, h'⟩ := R.plain b s h
  exact lt_of_heap h'

theorem Rel.drew (R : Rel C st a w own β) : Rel C st a w.drew own β :=
  R.ext (ext_drew w own) (fun _ _ _ _ _ => ⟨rfl, rfl⟩) (fun _ _ _ h => h) R.plain

theorem BlkRel.lt {i b : Nat} {B : Blk} (h : BlkRel w own β i b B) : b < w.heap.size := by
  cases h with
  | cells _ _ _ _ h => exact lt_of_heap h
  | ints _ _ _ _ _ h => exact lt_of_heap h

theorem Rel.β_lt (R : Rel C st a w own β) {i b : Nat} {B : Blk} (h : getB st i = some B) (hb : β i = some b) : b < w.heap.size := by
  obtain ⟨b', h1, h2⟩ := R.blocks i B h
  rw [hb] at h1; cases h1; exact h2.lt

/-- The heap has a new block of cells, whosever it is. -/
theorem Rel.alloc (R : Rel C st a w own β) (arr : Array Value) (e : TypeId) (r : Option (Ow × Nat)) :
    Rel C st a (w.alloc (.cells arr e (0, 0))) (own.set w.heap.size r) β := by
  refine R.ext (ext_alloc w own _ r R.plain_lt) (fun i B b h hb => ?_) (fun b p n h => ?_) (fun b s h => ?_)
  · have := R.β_lt h hb
    exact ⟨heap_alloc_old w _ this, by simp [Own.set, Nat.ne_of_lt this]⟩
  · have := lt_of_heap (R.plain b _ h).choose_spec.choose_spec
    simp [Own.set, Nat.ne_of_lt this, h]
  · by_cases hb : b = w.heap.size
    · subst hb; exact ⟨arr, e, heap_alloc_new w _⟩
    · simp [Own.set, hb] at h
      obtain ⟨arr', e', h'⟩ := R.plain b s h
      exact ⟨arr', e', by rw [heap_alloc_old w _ (lt_of_heap h')]; exact h'⟩

def setβ (β : Nat → Option Nat) (i b : Nat) : Nat → Option Nat := fun j => if j = i then some b else β j

theorem le_setβ {i b : Nat} (h : β i = none) : ∀ j c, β j = some c → setβ β i b j = some c := by
  intro j c hj
  have : j ≠ i := fun e => by rw [e, h] at hj; cases hj
  simp [setβ, this, hj]

/-- Where a new block may lie. -/
def SlotOk (st : St) : Option Nat → Prop
  | none => True
  | some i => i < st.blocks.length ∧ getB st i = none

theorem getB_new (st : St) (slot : Option Nat) (B : Blk) (hs : SlotOk st slot) (j : Nat) :
    getB (st.new slot B).2 j = if j = (st.new slot B).1 then some B else getB st j := by
  cases slot with
  | none =>
    simp only [St.new, getB]
    rw [List.getElem?_append]
    by_cases e : j = st.blocks.length
    · subst e; simp
    · simp only [e, if_false]
      by_cases hl : j < st.blocks.length
      · simp [hl]
      · simp only [hl, if_false]
        have h1 : ([some B] : List (Option Blk))[j - st.blocks.length]? = none := by
          rw [List.getElem?_eq_none]; simp; omega
        rw [h1, List.getElem?_eq_none (by omega)]
  | some i =>
    simp only [St.new, getB, List.getElem?_set]
    by_cases e : i = j
    · subst e
      have := hs.1
      simp [this]
    · have e' : ¬ j = i := fun h => e h.symm
      simp [e, e']

theorem length_new (st : St) (slot : Option Nat) (B : Blk) : (st.new slot B).2.blocks.length = st.blocks.length + (if slot = none then 1 else 0) := by
  cases slot <;> simp [St.new]

theorem Rel.slotNone (R : Rel C st a w own β) {slot : Option Nat} (hs : SlotOk st slot) (B : Blk) : β (st.new slot B).1 = none := by
  cases slot with
  | none => exact R.fresh _ (Nat.le_refl _)
  | some i => exact R.gone i hs.1 hs.2

/-- A new block, told. -/
theorem Rel.newB (R : Rel C st a w own β) {slot : Option Nat} (hs : SlotOk st slot) {B : Blk} {arr : Array Value} {e : TypeId}
    (hB : ∀ own' β', (∀ i b, β i = some b → β' i = some b) → Sub w own (w.alloc (.cells arr e (0, 0))) own' → own' w.heap.size = some (.bl (st.new slot B).1, 0) →
      BlkRel (w.alloc (.cells arr e (0, 0))) own' β' (st.new slot B).1 w.heap.size B) :
    Rel C (st.new slot B).2 a (w.alloc (.cells arr e (0, 0))) (own.set w.heap.size (some (.bl (st.new slot B).1, 0))) (setβ β (st.new slot B).1 w.heap.size) := by
  have hn := R.slotNone hs B
  have R1 := R.alloc arr e (some (.bl (st.new slot B).1, 0))
  have hle := le_setβ (b := w.heap.size) hn
  have hg := getB_new st slot B hs
  have htm : (st.new slot B).2.tmps = st.tmps := by cases slot <;> rfl
  have how : (st.new slot B).2.owns = st.owns := by cases slot <;> rfl
  refine ⟨R1.defers, ?_, ?_, ?_, ?_, ?_, ?_, R1.plain, R1.glob⟩
  · intro t x h
    rw [htm] at h
    exact (R1.tmps t x h).mono (Sub.refl _ _) (Wide.refl _) hle
  · intro i B' h
    rw [hg i] at h
    by_cases ei : i = (st.new slot B).1
    · rw [if_pos ei] at h
      cases h
      subst ei
      exact ⟨w.heap.size, by simp [setβ], hB _ _ hle (ext_alloc w own _ _ R.plain_lt).sub (by simp [Own.set])⟩
    · rw [if_neg ei] at h
      obtain ⟨b, h1, h2⟩ := R1.blocks i B' h
      exact ⟨b, hle i b h1, h2.mono (Sub.refl _ _) (Wide.refl _) hle rfl rfl⟩
  · intro i hi
    have hl := length_new st slot B
    have hne : i ≠ (st.new slot B).1 := by
      cases slot with
      | none => simp only [St.new] at hi ⊢; simp at hi; omega
      | some k => have := hs.1; simp only [St.new] at hi ⊢; simp at hi; omega
    simp only [setβ, hne, if_false]
    exact R.fresh i (by rw [hl] at hi; omega)
  · intro i hi h
    rw [hg i] at h
    by_cases ei : i = (st.new slot B).1
    · rw [if_pos ei] at h; cases h
    · rw [if_neg ei] at h
      simp only [setβ, ei, if_false]
      by_cases hl : i < st.blocks.length
      · exact R.gone i hl h
      · exact R.fresh i (by omega)
  · intro p hp x v hv
    rw [how] at hp
    refine R1.owns p hp x v ?_
    cases p with
    | t t => rw [ValAt, htm] at hv; exact hv
    | c t j => rw [ValAt, htm] at hv; exact hv
    | b i j =>
      obtain ⟨fz, cs, b, h1, h2, h3, h4⟩ := hv
      rw [hg i] at h1
      by_cases ei : i = (st.new slot B).1
      · obtain ⟨B', hB'⟩ := R.ob i j hp
        obtain ⟨b', hb', _⟩ := R.blocks i B' hB'
        rw [ei, hn] at hb'; cases hb'
      · rw [if_neg ei] at h1
        simp only [setβ, ei, if_false] at h3
        exact ⟨fz, cs, b, h1, h2, h3, h4⟩
  · intro i j h
    rw [how] at h
    obtain ⟨B', hB'⟩ := R.ob i j h
    rw [hg i]
    by_cases ei : i = (st.new slot B).1
    · exact ⟨B, by simp [ei]⟩
    · exact ⟨B', by simp [ei, hB']⟩

end Go.VM
