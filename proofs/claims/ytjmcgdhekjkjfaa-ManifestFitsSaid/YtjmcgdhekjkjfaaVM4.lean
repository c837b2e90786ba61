/- The machine over values: what a world holds of it. -/
import Derived.Test.YtjmcgdhekjkjfaaVM3
set_option linter.unusedSimpArgs false
set_option linter.unusedVariables false
namespace Go.VM
open Go

inductive Ow where
  | pl (p : Pl)
  | bl (i : Nat)
  | far

/-- Whose a block is, and from which cell on. -/
abbrev Own := Nat → Option (Ow × Nat)

def okc (own : Own) (b o : Nat) : Prop := ∀ ow n, own b = some (ow, n) → o < n

/-- A cell that no longer changes. -/
structure Fc (w : World) (own : Own) (b o : Nat) (v : Value) : Prop where
  cell : w.cell? ⟨b, o, none⟩ = some v
  ok : okc own b o
  one : v.oneCell' = true

inductive RepD (w : World) (own : Own) : Value → D → Prop
  | bool (b : Bool) : RepD w own (.bool b) (.bool b)
  | int (k : IntKind) (n : Int) (h : k.wrap n = n) : RepD w own (.int k n) (.int k n)
  | str (s : ByteArray) (l : List Int) (h : bytesI s = l) (hl : l.length ≤ maxLen) : RepD w own (.string s) (.str l)
  | numsNil (k : IntKind) : RepD w own (.slice none 0 0) (.nums k true [])
  | nums (k : IntKind) (b o len cap : Nat) (xs : List Int) (hl : xs.length = len) (hc : len ≤ cap) (hm : cap ≤ maxLen)
      (h : ∀ i x, xs[i]? = some x → Fc w own b (o + i) (.int k x)) (hw : ∀ (i : Nat) (x : Int), xs[i]? = some x → k.wrap x = x) :
      RepD w own (.slice (some ⟨b, o, none⟩) len cap) (.nums k false xs)
  | slNil (sz : Nat) : RepD w own (.slice none 0 0) (.sl sz true [])
  | sl (sz b o len cap : Nat) (xs : List (List D)) (val : Nat → Nat → Value) (hl : xs.length = len) (hc : len ≤ cap) (hm : cap ≤ maxLen)
      (hs : ∀ (i : Nat) (c : List D), xs[i]? = some c → c.length = sz)
      (h : ∀ (i r : Nat) (c : List D) (x : D), xs[i]? = some c → c[r]? = some x → Fc w own b (o + i * sz + r) (val i r))
      (hr : ∀ (i r : Nat) (c : List D) (x : D), xs[i]? = some c → c[r]? = some x → RepD w own (val i r) x) :
      RepD w own (.slice (some ⟨b, o, none⟩) len cap) (.sl sz false xs)
  | agg (arr : Array Value) (cs : List D) (hs : arr.size = cs.length) (h1 : ∀ (j : Nat), j < arr.size → (arr.getD j undef).oneCell' = true)
      (hr : ∀ (j : Nat) (x : D), cs[j]? = some x → RepD w own (arr.getD j undef) x) : RepD w own (.agg arr) (.agg cs)
  | ifc (t : TypeId) (v : Value) (x : D) (h : RepD w own v x) : RepD w own (.iface t v) (.ifc t x)
  | nilifc : RepD w own .nilIface .nilifc
  | fp (b o : Nat) (cs : List D) (val : Nat → Value) (h : ∀ (j : Nat) (x : D), cs[j]? = some x → Fc w own b (o + j) (val j))
      (hr : ∀ (j : Nat) (x : D), cs[j]? = some x → RepD w own (val j) x) : RepD w own (.pointer (some ⟨b, o, none⟩)) (.fp cs)
  | nilptr : RepD w own (.pointer none) .nilptr
  | nilfn : RepD w own .nilFunc .nilfn

/-- What no longer changes in w stands in w', too. -/
def Sub (w : World) (own : Own) (w' : World) (own' : Own) : Prop := ∀ b o v, Fc w own b o v → Fc w' own' b o v

theorem Sub.refl (w : World) (own : Own) : Sub w own w own := fun _ _ _ h => h
theorem Sub.trans {w w' w'' : World} {own own' own'' : Own} (h : Sub w own w' own') (k : Sub w' own' w'' own'') : Sub w own w'' own'' :=
  fun b o v f => k b o v (h b o v f)

theorem RepD.mono {w w' : World} {own own' : Own} (s : Sub w own w' own') {v : Value} {x : D} (h : RepD w own v x) : RepD w' own' v x := by
  induction h with
  | bool b => exact .bool b
  | int k n h => exact .int k n h
  | str s l h hl => exact .str s l h hl
  | numsNil k => exact .numsNil k
  | nums k b o len cap xs hl hc hm h hw => exact .nums k b o len cap xs hl hc hm (fun i x hx => s _ _ _ (h i x hx)) hw
  | slNil sz => exact .slNil sz
  | sl sz b o len cap xs val hl hc hm hs h hr ih => exact .sl sz b o len cap xs val hl hc hm hs (fun i r c x h1 h2 => s _ _ _ (h i r c x h1 h2)) ih
  | agg arr cs hs h1 hr ih => exact .agg arr cs hs h1 ih
  | ifc t v x h ih => exact .ifc t v x ih
  | nilifc => exact .nilifc
  | fp b o cs val h hr ih => exact .fp b o cs val (fun j x hx => s _ _ _ (h j x hx)) ih
  | nilptr => exact .nilptr
  | nilfn => exact .nilfn

/-- Cells from an address on that no longer change. -/
def RepC (w : World) (own : Own) (b o : Nat) (cs : List D) : Prop := ∀ (j : Nat) (x : D), cs[j]? = some x → ∃ v, Fc w own b (o + j) v ∧ RepD w own v x

inductive RepV (w : World) (own : Own) (β : Nat → Option Nat) : Value → V → Prop
  | any (v : Value) : RepV w own β v .any
  | skip : RepV w own β undef .skip
  | d (v : Value) (x : D) (h : RepD w own v x) : RepV w own β v (.d x)
  | ptr (i off b : Nat) (hβ : β i = some b) : RepV w own β (.pointer (some ⟨b, off, none⟩)) (.ptr i off)
  | mu (i off len cap sz b : Nat) (a : Addr) (hβ : β i = some b) (hs : a.spot = none) (hc : len ≤ cap) (hm : cap ≤ maxLen) (ha : cap ≠ 0 → a = ⟨b, off, none⟩)
      (hb : cap ≠ 0 → ∃ arr e, w.heap[b]? = some (.cells arr e (0, 0)) ∧ off + cap * sz ≤ arr.size) : RepV w own β (.slice (some a) len cap) (.mu i off len cap sz)
  | gp (g off : Nat) : RepV w own β (.pointer (some ⟨g, off, none⟩)) (.gp g off)
  | fn (f : FuncId) (arr : Array Value) (cs : List V) (hs : arr.size = cs.length)
      (hr : ∀ (j : Nat) (x : V), cs[j]? = some x → RepV w own β (arr.getD j undef) x) : RepV w own β (.func (.func f) #[] arr) (.fn f cs)
  | agg (arr : Array Value) (cs : List V) (hs : arr.size = cs.length) (h1 : ∀ (j : Nat), j < arr.size → (arr.getD j undef).oneCell' = true)
      (hr : ∀ (j : Nat) (x : V), cs[j]? = some x → RepV w own β (arr.getD j undef) x) : RepV w own β (.agg arr) (.agg cs)
  | tup (arr : Array Value) (cs : List V) (hs : arr.size = cs.length)
      (hr : ∀ (j : Nat) (x : V), cs[j]? = some x → RepV w own β (arr.getD j undef) x) : RepV w own β (.tuple arr) (.tup cs)

/-- What a world keeps of another one's blocks: their sizes where they are plain. -/
def Wide (w w' : World) : Prop := ∀ (b : Nat) (arr : Array Value) (e : TypeId), w.heap[b]? = some (.cells arr e (0, 0)) → ∃ arr' : Array Value, w'.heap[b]? = some (.cells arr' e (0, 0)) ∧ arr'.size = arr.size

theorem Wide.refl (w : World) : Wide w w := fun _ arr _ h => ⟨arr, h, rfl⟩
theorem Wide.trans {w w' w'' : World} (h : Wide w w') (k : Wide w' w'') : Wide w w'' := fun b arr e hb => by
  obtain ⟨arr', h1, h2⟩ := h b arr e hb
  obtain ⟨arr'', h3, h4⟩ := k b arr' e h1
  exact ⟨arr'', h3, h4.trans h2⟩

theorem RepV.mono {w w' : World} {own own' : Own} {β β' : Nat → Option Nat} (s : Sub w own w' own') (hw : Wide w w') (hβ : ∀ i b, β i = some b → β' i = some b)
    {v : Value} {x : V} (h : RepV w own β v x) : RepV w' own' β' v x := by
  induction h with
  | any v => exact .any v
  | skip => exact .skip
  | d v x h => exact .d v x (h.mono s)
  | ptr i off b h => exact .ptr i off b (hβ i b h)
  | mu i off len cap sz b a h hs hc hm ha hb =>
    refine .mu i off len cap sz b a (hβ i b h) hs hc hm ha (fun h0 => ?_)
    obtain ⟨arr, e, h1, h2⟩ := hb h0
    obtain ⟨arr', h3, h4⟩ := hw _ _ _ h1
    exact ⟨arr', e, h3, by omega⟩
  | gp g off => exact .gp g off
  | fn f arr cs hs hr ih => exact .fn f arr cs hs ih
  | agg arr cs hs h1 hr ih => exact .agg arr cs hs h1 ih
  | tup arr cs hs hr ih => exact .tup arr cs hs ih

/-- A block that holds what it is told to. -/
inductive BlkRel (w : World) (own : Own) (β : Nat → Option Nat) (i b : Nat) : Blk → Prop
  | cells (fz : Bool) (cs : List V) (arr : Array Value) (e : TypeId) (hh : w.heap[b]? = some (.cells arr e (0, 0))) (hs : arr.size = cs.length)
      (h1 : ∀ (j : Nat), j < arr.size → (arr.getD j undef).oneCell' = true)
      (hr : ∀ (j : Nat) (x : V), cs[j]? = some x → RepV w own β (arr.getD j undef) x)
      (ho : own b = if fz then none else some (.bl i, 0)) : BlkRel w own β i b (.cells fz cs)
  | ints (fz : Bool) (k : IntKind) (xs : List Int) (arr : Array Value) (e : TypeId) (hh : w.heap[b]? = some (.cells arr e (0, 0))) (hs : arr.size = xs.length)
      (hr : ∀ (j : Nat) (x : Int), xs[j]? = some x → arr.getD j undef = .int k x ∧ k.wrap x = x)
      (ho : own b = if fz then none else some (.bl i, 0)) : BlkRel w own β i b (.ints fz k xs)

def szOf : V → Option Nat
  | .d (.nums _ _ _) => some 1
  | .d (.sl sz _ _) => some sz
  | _ => none

/-- The room behind a slice is p's alone. -/
def OwnsAt (w : World) (own : Own) (p : Pl) (v : Value) (x : V) : Prop := ∀ sz, szOf x = some sz →
  v = .slice none 0 0 ∨ ∃ b o len cap, v = .slice (some ⟨b, o, none⟩) len cap ∧
    (len = cap ∨ (o = 0 ∧ own b = some (.pl p, len * sz) ∧ ∃ arr e, w.heap[b]? = some (.cells arr e (0, 0)) ∧ arr.size = cap * sz))

/-- What stands at a place. -/
def ValAt (st : St) (a : Act) (w : World) (β : Nat → Option Nat) : Pl → V → Value → Prop
  | .t t, x, v => look t st.tmps = some x ∧ v = a.tmps.getD t undef
  | .c t j, x, v => ∃ vs arr, look t st.tmps = some (.tup vs) ∧ vs[j]? = some x ∧ a.tmps.getD t undef = .tuple arr ∧ v = arr.getD j undef
  | .b i j, x, v => ∃ fz cs b, getB st i = some (.cells fz cs) ∧ cs[j]? = some x ∧ β i = some b ∧ w.cell? ⟨b, j, none⟩ = some v

structure Rel (C : Ctx) (st : St) (a : Act) (w : World) (own : Own) (β : Nat → Option Nat) : Prop where
  defers : a.defers = []
  tmps : ∀ t x, look t st.tmps = some x → RepV w own β (a.tmps.getD t undef) x
  blocks : ∀ i B, getB st i = some B → ∃ b, β i = some b ∧ BlkRel w own β i b B
  fresh : ∀ i, st.blocks.length ≤ i → β i = none
  gone : ∀ i, i < st.blocks.length → getB st i = none → β i = none
  owns : ∀ p, hasPl p st.owns = true → ∀ x v, ValAt st a w β p x v → OwnsAt w own p v x
  ob : ∀ i j, hasPl (.b i j) st.owns = true → ∃ B, getB st i = some B
  plain : ∀ b r, own b = some r → ∃ arr e, w.heap[b]? = some (.cells arr e (0, 0))
  glob : ∀ g cs, C.glob g = some cs → RepC w own g 0 cs

/-- How a world goes on. -/
structure Ext (w : World) (own : Own) (w' : World) (own' : Own) : Prop where
  os : w'.os = w.os
  tape : w'.tape = w.tape
  output : w'.output = w.output
  size : w.heap.size ≤ w'.heap.size
  free : ∀ b, b < w.heap.size → own b = none → w'.heap[b]? = w.heap[b]? ∧ own' b = none
  part : ∀ b ow n, b < w.heap.size → own b = some (ow, n) → (∀ o, o < n → w'.cell? ⟨b, o, none⟩ = w.cell? ⟨b, o, none⟩) ∧ (∀ ow' n', own' b = some (ow', n') → n ≤ n')
  wide : Wide w w'
  far : ∀ b n, own b = some (.far, n) → w'.heap[b]? = w.heap[b]? ∧ own' b = some (.far, n)

theorem Ext.refl (w : World) (own : Own) : Ext w own w own :=
  ⟨rfl, rfl, rfl, Nat.le_refl _, fun _ _ h => ⟨rfl, h⟩, fun _ _ _ _ h => ⟨fun _ _ => rfl, fun _ _ h' => by rw [h] at h'; cases h'; exact Nat.le_refl _⟩, Wide.refl w, fun _ _ h => ⟨rfl, h⟩⟩

theorem cell_of_heap {w w' : World} {b : Nat} (h : w'.heap[b]? = w.heap[b]?) (o : Nat) : w'.cell? ⟨b, o, none⟩ = w.cell? ⟨b, o, none⟩ := by
  simp only [World.cell?, h]

theorem Ext.trans {w w' w'' : World} {own own' own'' : Own} (h : Ext w own w' own') (k : Ext w' own' w'' own'') : Ext w own w'' own'' where
  os := k.os.trans h.os
  tape := k.tape.trans h.tape
  output := k.output.trans h.output
  size := Nat.le_trans h.size k.size
  free b hb ho := by
    obtain ⟨h1, h2⟩ := h.free b hb ho
    obtain ⟨k1, k2⟩ := k.free b (Nat.lt_of_lt_of_le hb h.size) h2
    exact ⟨k1.trans h1, k2⟩
  part b ow n hb ho := by
    obtain ⟨h1, h2⟩ := h.part b ow n hb ho
    have hb' := Nat.lt_of_lt_of_le hb h.size
    cases ho' : own' b with
    | none =>
      obtain ⟨k1, k2⟩ := k.free b hb' ho'
      exact ⟨fun o hl => (cell_of_heap k1 o).trans (h1 o hl), fun ow' n' h3 => by rw [k2] at h3; cases h3⟩
    | some r =>
      obtain ⟨ow', n'⟩ := r
      have hn := h2 ow' n' ho'
      obtain ⟨k1, k2⟩ := k.part b ow' n' hb' ho'
      exact ⟨fun o hl => (k1 o (Nat.lt_of_lt_of_le hl hn)).trans (h1 o hl), fun ow'' n'' h3 => Nat.le_trans hn (k2 ow'' n'' h3)⟩
  wide := h.wide.trans k.wide
  far b n ho := by
    obtain ⟨h1, h2⟩ := h.far b n ho
    obtain ⟨k1, k2⟩ := k.far b n h2
    exact ⟨k1.trans h1, k2⟩

theorem Ext.sub {w w' : World} {own own' : Own} (h : Ext w own w' own') : Sub w own w' own' := by
  intro b o v f
  have hb : b < w.heap.size := World.block_lt_of_cell? w _ f.cell
  cases ho : own b with
  | none =>
    obtain ⟨h1, h2⟩ := h.free b hb ho
    exact ⟨(cell_of_heap h1 o).trans f.cell, fun ow n h3 => (by rw [h2] at h3; cases h3), f.one⟩
  | some r =>
    obtain ⟨ow, n⟩ := r
    obtain ⟨h1, h2⟩ := h.part b ow n hb ho
    have hl := f.ok ow n ho
    exact ⟨(h1 o hl).trans f.cell, fun ow' n' h3 => Nat.lt_of_lt_of_le hl (h2 ow' n' h3), f.one⟩

-- ------------------------------------------------------------ slots

theorem nbeq_false {s t : Nat} (h : s ≠ t) : Nat.beq s t = false := by
  cases h' : Nat.beq s t with
  | false => rfl
  | true => exact absurd (Nat.eq_of_beq_eq_true h') h

theorem look_ins_same (t : Nat) (v : V) : ∀ l, look t (ins t v l) = some v
  | [] => by simp [ins, look]
  | (u, x) :: l => by
    simp only [ins]
    cases h : Nat.blt t u with
    | true => simp [look]
    | false =>
      cases h2 : Nat.beq t u with
      | true => simp [look]
      | false => simp [look, h2, look_ins_same t v l]

theorem look_ins_other {s t : Nat} (hne : s ≠ t) (v : V) : ∀ l, look s (ins t v l) = look s l
  | [] => by
    have : Nat.beq s t = false := nbeq_false hne
    simp [ins, look, this]
  | (u, x) :: l => by
    have h0 : Nat.beq s t = false := nbeq_false hne
    simp only [ins]
    cases h : Nat.blt t u with
    | true => simp [look, h0]
    | false =>
      cases h2 : Nat.beq t u with
      | true =>
        have : t = u := Nat.eq_of_beq_eq_true h2
        subst this
        simp [look, h0]
      | false =>
        simp only [cond_false, look]
        rw [look_ins_other hne v l]

theorem Pl.beq_iff {p q : Pl} : Pl.beq p q = true ↔ p = q := by
  cases p <;> cases q <;> simp [Pl.beq]

theorem hasPl_iff {p : Pl} : ∀ {l : List Pl}, hasPl p l = true ↔ p ∈ l
  | [] => by simp [hasPl]
  | q :: l => by
    simp only [hasPl, List.mem_cons]
    cases h : Pl.beq p q with
    | true => simp [Pl.beq_iff.1 h]
    | false =>
      have hne : p ≠ q := fun e => by rw [Pl.beq_iff.2 e] at h; cases h
      simp [hne, hasPl_iff (l := l)]

theorem mem_dropPl {f : Pl → Bool} {p : Pl} : ∀ {l : List Pl}, p ∈ dropPl f l ↔ p ∈ l ∧ f p = false
  | [] => by simp [dropPl]
  | q :: l => by
    simp only [dropPl]
    cases h : f q with
    | true =>
      simp only [cond_true, List.mem_cons, mem_dropPl (l := l)]
      constructor
      · rintro ⟨h1, h2⟩; exact ⟨.inr h1, h2⟩
      · rintro ⟨rfl | h1, h2⟩
        · rw [h] at h2; cases h2
        · exact ⟨h1, h2⟩
    | false =>
      simp only [cond_false, List.mem_cons, mem_dropPl (l := l)]
      constructor
      · rintro (rfl | ⟨h1, h2⟩)
        · exact ⟨.inl rfl, h⟩
        · exact ⟨.inr h1, h2⟩
      · rintro ⟨rfl | h1, h2⟩
        · exact .inl rfl
        · exact .inr ⟨h1, h2⟩

theorem hasPl_drop {f : Pl → Bool} {p : Pl} {l : List Pl} (h : hasPl p (dropPl f l) = true) : hasPl p l = true ∧ f p = false := by
  have := mem_dropPl.1 (hasPl_iff.1 h)
  exact ⟨hasPl_iff.2 this.1, this.2⟩

theorem getD_set_same (a : Array Value) (t : Nat) (v : Value) (h : t < a.size) : (a.setIfInBounds t v).getD t undef = v := by
  simp [Array.getD, h]

theorem getD_set_other (a : Array Value) {s t : Nat} (v : Value) (h : s ≠ t) : (a.setIfInBounds t v).getD s undef = a.getD s undef := by
  simp only [Array.getD, Array.size_setIfInBounds]
  split
  · simp only [Array.getInternal_eq_getElem]
    rw [Array.getElem_setIfInBounds_ne _ (fun e => h e.symm)]
  · rfl

end Go.VM
