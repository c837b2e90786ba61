/- The machine over values: what an operation does to a state, told apart from the state. -/
import Derived.Test.YtjmcgdhekjkjfaaVM24
import Derived.Orders
set_option linter.unusedSimpArgs false
set_option linter.unusedVariables false
namespace Go.VM
open Go

/-- States that nobody tells apart. -/
structure Same (s s' : St) : Prop where
  look : ∀ t, look t s.tmps = look t s'.tmps
  blk : ∀ i, getB s i = getB s' i
  len : s.blocks.length = s'.blocks.length
  own : ∀ p, hasPl p s.owns = hasPl p s'.owns

theorem Same.refl (s : St) : Same s s := ⟨fun _ => rfl, fun _ => rfl, rfl, fun _ => rfl⟩
theorem Same.symm {s s' : St} (h : Same s s') : Same s' s := ⟨fun t => (h.look t).symm, fun t => (h.blk t).symm, h.len.symm, fun t => (h.own t).symm⟩
theorem Same.trans {s s' s'' : St} (h : Same s s') (k : Same s' s'') : Same s s'' :=
  ⟨fun t => (h.look t).trans (k.look t), fun t => (h.blk t).trans (k.blk t), h.len.trans k.len, fun t => (h.own t).trans (k.own t)⟩

/-- A change. -/
structure Dl where
  dst : Option Nat
  v : V
  b : Nat → Option Blk → Option Blk
  drop : Pl → Bool
  add : Pl → Bool
  ext : Nat

def dropD (dst : Option Nat) (p : Pl) : Bool :=
  match dst with
  | some t => Pl.ofTmp t p
  | none => false

structure Eff (δ : Dl) (s s' : St) : Prop where
  look : ∀ t, look t s'.tmps = if δ.dst = some t then some δ.v else look t s.tmps
  blk : ∀ i, getB s' i = δ.b i (getB s i)
  len : s'.blocks.length = max s.blocks.length δ.ext
  own : ∀ p, hasPl p s'.owns = (δ.add p || (hasPl p s.owns && !δ.drop p))

theorem Eff.same {δ : Dl} {s s' a a' : St} (h : Same s a) (e : Eff δ s s') (e' : Eff δ a a') : Same s' a' where
  look t := by rw [e.look, e'.look, h.look]
  blk i := by rw [e.blk, e'.blk, h.blk]
  len := by rw [e.len, e'.len, h.len]
  own p := by rw [e.own, e'.own, h.own]

/-- Two changes that go by each other. -/
theorem Eff.comm {d1 d2 : Dl} {s a c b d : St} (hd : ∀ t, d1.dst = some t → d2.dst ≠ some t) (hb : ∀ i, d1.b i (d2.b i (getB s i)) = d2.b i (d1.b i (getB s i)))
    (h12 : ∀ p, d1.add p = true → d2.drop p = false) (h21 : ∀ p, d2.add p = true → d1.drop p = false)
    (e1 : Eff d1 s a) (e2 : Eff d2 a c) (e3 : Eff d2 s b) (e4 : Eff d1 b d) : Same c d where
  look t := by
    rw [e2.look, e1.look, e4.look, e3.look]
    by_cases h1 : d1.dst = some t
    · simp [h1, hd t h1]
    · simp [h1]
  blk i := by rw [e2.blk, e1.blk, e4.blk, e3.blk, hb]
  len := by rw [e2.len, e1.len, e4.len, e3.len]; omega
  own p := by
    rw [e2.own, e1.own, e4.own, e3.own]
    have a1 := h12 p
    have a2 := h21 p
    cases h1 : d1.add p <;> cases h2 : d2.add p <;> cases h3 : d1.drop p <;> cases h4 : d2.drop p <;> cases h5 : hasPl p s.owns <;> simp_all

theorem hasPl_dropPl {f : Pl → Bool} {p : Pl} {l : List Pl} : hasPl p (dropPl f l) = (hasPl p l && !f p) := by
  rw [Bool.eq_iff_iff]
  simp [hasPl_iff, mem_dropPl]

theorem hasPl_consB {p q : Pl} {l : List Pl} : hasPl p (q :: l) = (Pl.beq p q || hasPl p l) := by
  simp only [hasPl]
  cases Pl.beq p q <;> rfl

theorem hasPl_append {p : Pl} {l l' : List Pl} : hasPl p (l ++ l') = (hasPl p l || hasPl p l') := by
  rw [Bool.eq_iff_iff]
  simp [hasPl_iff]

theorem look_put (s : St) (dst : Option Nat) (v : V) (t : Nat) : VM.look t (s.put dst v).tmps = if dst = some t then some v else VM.look t s.tmps := by
  cases dst with
  | none => simp [St.put]
  | some d =>
    simp only [St.put, Option.some.injEq]
    by_cases h : d = t
    · subst h; simp [look_ins_same]
    · simp [h, look_ins_other (Ne.symm h)]

theorem hasPl_put (s : St) (dst : Option Nat) (v : V) (p : Pl) : hasPl p (s.put dst v).owns = (hasPl p s.owns && !dropD dst p) := by
  cases dst with
  | none => simp [St.put, dropD]
  | some d => simp [St.put, dropD, hasPl_dropPl]

theorem eff_put (s : St) (dst : Option Nat) (v : V) : Eff ⟨dst, v, fun _ b => b, dropD dst, fun _ => false, 0⟩ s (s.put dst v) where
  look t := look_put s dst v t
  blk i := getB_put s dst v i
  len := by simp [blocks_put]
  own p := by simp [hasPl_put]

def ownP (dst : Option Nat) (yes : Bool) (p : Pl) : Bool :=
  match dst with
  | some d => yes && Pl.beq p (.t d)
  | none => false

theorem eff_putOwn (s : St) (dst : Option Nat) (v : V) (yes : Bool) : Eff ⟨dst, v, fun _ b => b, dropD dst, ownP dst yes, 0⟩ s ((s.put dst v).own dst yes) := by
  have e := eff_put s dst v
  cases yes with
  | false =>
    have : ownP dst false = fun _ => false := by funext p; cases dst <;> simp [ownP]
    rw [this]; exact e
  | true =>
    cases dst with
    | none => exact e
    | some d =>
      refine ⟨e.look, e.blk, e.len, fun p => ?_⟩
      simp only [St.own, hasPl_consB, ownP, Bool.true_and]
      rw [e.own]; simp

/-- One change, and then another one. -/
def Dl.comp (d e : Dl) : Dl where
  dst := match e.dst with | some t => some t | none => d.dst
  v := match e.dst with | some _ => e.v | none => d.v
  b i x := e.b i (d.b i x)
  drop p := d.drop p || e.drop p
  add p := e.add p || (d.add p && !e.drop p)
  ext := max d.ext e.ext

theorem Eff.comp {d e : Dl} {s m s' : St} (h : d.dst = none ∨ e.dst = none) (h1 : Eff d s m) (h2 : Eff e m s') : Eff (d.comp e) s s' where
  look t := by
    rw [h2.look, h1.look]
    rcases h with h | h
    · simp only [Dl.comp, h]
      cases he : e.dst <;> simp
    · simp [Dl.comp, h]
  blk i := by rw [h2.blk, h1.blk]; rfl
  len := by rw [h2.len, h1.len]; simp only [Dl.comp]; omega
  own p := by
    rw [h2.own, h1.own]
    simp only [Dl.comp]
    cases e.add p <;> cases d.add p <;> cases e.drop p <;> cases d.drop p <;> cases hasPl p s.owns <;> rfl

theorem eff_give (s : St) (p q : Pl) : Eff ⟨none, .any, fun _ b => b, Pl.beq p, fun r => hasPl p s.owns && Pl.beq q r, 0⟩ s (s.give p q) where
  look t := by simp only [St.give]; cases hasPl p s.owns <;> simp
  blk i := by simp only [St.give]; cases hasPl p s.owns <;> rfl
  len := by simp only [St.give]; cases hasPl p s.owns <;> simp
  own r := by
    simp only [St.give]
    cases h : hasPl p s.owns with
    | false =>
      simp only [cond_false, Bool.false_and, Bool.false_or]
      cases h2 : Pl.beq p r with
      | true => have := Pl.beq_iff.1 h2; subst this; simp [h]
      | false => simp
    | true =>
      simp only [cond_true, hasPl_consB, hasPl_dropPl, Bool.true_and]
      have : Pl.beq r q = Pl.beq q r := by
        rw [Bool.eq_iff_iff, Pl.beq_iff, Pl.beq_iff]; exact ⟨Eq.symm, Eq.symm⟩
      rw [this]

theorem eff_disown (s : St) (f : Pl → Bool) : Eff ⟨none, .any, fun _ b => b, f, fun _ => false, 0⟩ s (s.disown f) where
  look t := by simp [St.disown]
  blk i := rfl
  len := by simp [St.disown]
  own p := by simp [St.disown, hasPl_dropPl]

-- ------------------------------------------------------------ freezing

def frzs : List Nat → St → St
  | [], s => s
  | i :: l, s => frzs l (s.freeze i)

theorem getB_frz (s : St) (i j : Nat) : getB (s.freeze i) j = if j = i then (getB s j).map Blk.freeze else getB s j := by
  unfold St.freeze
  cases h : getB s i with
  | none =>
    simp only
    by_cases e : j = i
    · subst e; simp [h]
    · simp [e]
  | some b =>
    simp only
    have := getB_setB (B' := b.freeze) h j
    simp only [St.setB, getB] at this ⊢
    rw [this]
    by_cases e : j = i
    · subst e; simp only [if_true]; simp only [getB] at h; rw [h]; rfl
    · simp only [e, if_false]

theorem look_freeze (s : St) (i : Nat) : (s.freeze i).tmps = s.tmps := by
  unfold St.freeze; cases getB s i <;> rfl
theorem len_freeze (s : St) (i : Nat) : (s.freeze i).blocks.length = s.blocks.length := by
  unfold St.freeze; cases getB s i <;> simp
theorem own_freeze (s : St) (i : Nat) (p : Pl) (h : (getB s i).isSome = true) : hasPl p (s.freeze i).owns = (hasPl p s.owns && !Pl.ofBlk i p) := by
  unfold St.freeze
  cases e : getB s i with
  | none => rw [e] at h; cases h
  | some b => simp [hasPl_dropPl]

def frzD (l : List Nat) : Dl := ⟨none, .any, fun i b => if i ∈ l then b.map Blk.freeze else b, fun p => l.any fun i => Pl.ofBlk i p, fun _ => false, 0⟩

theorem freeze_freeze (b : Blk) : b.freeze.freeze = b.freeze := by cases b <;> rfl

theorem eff_frzs : ∀ (l : List Nat) (s : St), (∀ i ∈ l, (getB s i).isSome = true) → Eff (frzD l) s (frzs l s)
  | [], s, _ => ⟨fun t => by simp [frzD, frzs], fun i => by simp [frzD, frzs], by simp [frzD, frzs], fun p => by simp [frzD, frzs]⟩
  | i :: l, s, h => by
    have h1 := h i (List.mem_cons_self ..)
    have ih := eff_frzs l (s.freeze i) (fun j hj => by
      rw [getB_frz]
      have := h j (List.mem_cons_of_mem _ hj)
      split
      · simpa using this
      · exact this)
    refine ⟨fun t => ?_, fun j => ?_, ?_, fun p => ?_⟩
    · simp only [frzs]; rw [ih.look, look_freeze]; rfl
    · simp only [frzs]; rw [ih.blk, getB_frz]
      simp only [frzD, List.mem_cons]
      by_cases e : j = i
      · subst e
        have ff : ∀ x : Option Blk, (x.map Blk.freeze).map Blk.freeze = x.map Blk.freeze := fun x => by
          cases x with
          | none => rfl
          | some b => simp [freeze_freeze]
        by_cases hm : j ∈ l
        · simp only [hm, if_true, or_true, ff]
        · simp only [hm, if_true, if_false, or_false]
      · simp [e]
    · simp only [frzs]; rw [ih.len, len_freeze]; rfl
    · simp only [frzs]; rw [ih.own, own_freeze s i p h1]
      simp only [frzD, List.any_cons]
      cases hasPl p s.owns <;> cases Pl.ofBlk i p <;> cases (l.any fun i => Pl.ofBlk i p) <;> rfl

-- ------------------------------------------------------------ what is looked at

def tmpsL : List Operand → List Nat
  | [] => []
  | .tmp t :: l => t :: tmpsL l
  | _ :: l => tmpsL l

theorem mem_tmpsL {t : Nat} : ∀ {l : List Operand}, t ∈ tmpsL l ↔ .tmp t ∈ l
  | [] => by simp [tmpsL]
  | x :: l => by cases x <;> simp [tmpsL, mem_tmpsL (l := l)]

def isRd (o : Oper) : Bool :=
  match o.op with
  | .load .. => true
  | .convert .. => true
  | .slice .. => true
  | .makeInterface .. => true
  | .call c => match c.callee with
    | .value _ => true
    | .builtin .append => true
    | _ => false
  | _ => false

def isWr (o : Oper) : Bool :=
  match o.op with
  | .store .. => true
  | _ => false

def isLoad (o : Oper) : Bool :=
  match o.op with
  | .load .. => true
  | _ => false

def isNew (o : Oper) : Bool :=
  match o.op with
  | .alloc .. => true
  | .box .. => true
  | .makeSlice .. => true
  | _ => false

/-- Whose room it asks for, and takes. -/
def usesT (o : Oper) : List Nat :=
  match o.op with
  | .assign x => tmpsL [x]
  | .store _ _ y => tmpsL [y]
  | .call c => match c.callee with
    | .builtin .append => (c.args.toList.take 1).map fun | .tmp z => z | _ => 0
    | _ => []
  | _ => []

def usesC (o : Oper) : Option (Nat × Nat) :=
  match o.op with
  | .extract (.tmp x) j => some (x, j)
  | _ => none

def uses (o : Oper) : Pl → Bool
  | .t x => (usesT o).contains x
  | .c x j => usesC o == some (x, j)
  | .b _ _ => false

/-- The same data. -/
def BlkEq (s s2 : St) (i : Nat) : Prop := ∀ B, getB s i = some B → ∃ B2, getB s2 i = some B2 ∧ B2.freeze = B.freeze

theorem BlkEq.refl (s : St) (i : Nat) : BlkEq s s i := fun B h => ⟨B, h, rfl⟩

structure Agree (o : Oper) (slot : Nat) (s s2 : St) : Prop where
  tm : ∀ t, .tmp t ∈ o.op.operands.toList → look t s2.tmps = look t s.tmps
  rd : isRd o = true → ∀ t, .tmp t ∈ o.op.operands.toList → ∀ v, look t s.tmps = some v → ∀ i ∈ refs v, BlkEq s s2 i
  wr : ∀ ty t y, o.op = .store ty (.tmp t) y → ∀ v, look t s.tmps = some v → ∀ i ∈ refs v, ∀ B, getB s i = some B → getB s2 i = some B
  us : ∀ p, uses o p = true → hasPl p s2.owns = hasPl p s.owns
  kept : isNew o = true → getB s slot = none → getB s2 slot = none

theorem Agree.refl (o : Oper) (slot : Nat) (s : St) : Agree o slot s s := ⟨fun _ _ => rfl, fun _ _ _ _ _ i _ => BlkEq.refl s i, fun _ _ _ _ _ _ _ _ _ h => h, fun _ _ => rfl, fun _ h => h⟩

theorem evO_same {C : Ctx} {s s2 : St} {x : Operand} (h : ∀ t, x = .tmp t → look t s2.tmps = look t s.tmps) (t : Nat) : evO C s2 t x = evO C s t x := by
  cases x with
  | tmp u => exact h u rfl
  | _ => rfl

theorem Agree.evO {o : Oper} {s s2 : St} {slot : Nat} (A : Agree o slot s s2) {C : Ctx} {t : Nat} {x : Operand} (hx : x ∈ o.op.operands.toList) : VM.evO C s2 t x = VM.evO C s t x :=
  evO_same (fun u hu => A.tm u (by rw [← hu]; exact hx)) t

/-- What a change of an operation's is like. -/
structure Fits (o : Oper) (n : Nat) (fl : Bool) (slot : Nat) (s : St) (δ : Dl) : Prop where
  dst : δ.dst = o.dst
  no : isRd o = false → isWr o = false → isNew o = false → ∀ i x, δ.b i x = x
  nw : isNew o = true → ∀ i x, i ≠ slot ∨ x.isSome = true → δ.b i x = x
  rd : isRd o = true → ∀ i, (∀ x, δ.b i x = x) ∨ ((∀ x, δ.b i x = x.map Blk.freeze) ∧ (getB s i).isSome = true ∧ ∃ t v, .tmp t ∈ o.op.operands.toList ∧ look t s.tmps = some v ∧ i ∈ refs v)
  wr : isWr o = true → ∀ i, (∀ x, δ.b i x = x) ∨ ((getB s i).isSome = true ∧ (fl = true → n ≤ i))
  ld : isLoad o = true → ∀ i x, δ.b i x = x
  som : ∀ i x, x.isSome = true → (δ.b i x).isSome = true
  add : ∀ p, δ.add p = true → dropD o.dst p = true ∨ (isWr o = true ∧ ∃ i j, p = .b i j)
  drop : ∀ p, δ.drop p = true → dropD o.dst p = true ∨ uses o p = true ∨ ((isRd o = true ∧ isLoad o = false ∨ isWr o = true) ∧ ∃ i j, p = .b i j)

def Cong (C : Ctx) (n i : Nat) (fl : Bool) (o : Oper) (s s1 : St) : Prop :=
  ∃ δ, Fits o n fl (n + i) s δ ∧ Eff δ s s1 ∧ ∀ s2, Agree o (n + i) s s2 → ∃ s2', opD C n i fl o s2 = some s2' ∧ Eff δ s2 s2'

section
variable {C : Ctx} {n i : Nat} {fl : Bool} {o : Oper} {s s1 : St}

theorem fits_id {δ : Dl} (hd : δ.dst = o.dst) (hb : ∀ i x, δ.b i x = x) (ha : ∀ p, δ.add p = true → dropD o.dst p = true) (hdr : ∀ p, δ.drop p = true → dropD o.dst p = true ∨ uses o p = true) :
    Fits o n fl (n + i) s δ :=
  ⟨hd, fun _ _ _ => hb, fun _ i x _ => hb i x, fun _ i => .inl fun x => hb i x, fun _ i => .inl fun x => hb i x, fun _ => hb, fun i x h => by rw [hb]; exact h, fun p hp => .inl (ha p hp),
    fun p hp => (hdr p hp).imp id .inl⟩

theorem fits_put (v : V) : Fits o n fl (n + i) s ⟨o.dst, v, fun _ b => b, dropD o.dst, fun _ => false, 0⟩ :=
  fits_id rfl (fun _ _ => rfl) (fun _ h => by simp at h) (fun _ h => .inl h)

/-- A value goes into the slot. -/
theorem cong_val (v : V) (h : ∀ s2, Agree o (n + i) s s2 → opD C n i fl o s2 = some (s2.put o.dst v)) (hs : opD C n i fl o s = some s1) : Cong C n i fl o s s1 := by
  have := h s (Agree.refl o _ s)
  rw [hs] at this; cases this
  exact ⟨_, fits_put v, eff_put _ _ _, fun s2 A => ⟨_, h s2 A, eff_put _ _ _⟩⟩

theorem cong_own (v : V) (yes : Bool) (h : ∀ s2, Agree o (n + i) s s2 → opD C n i fl o s2 = some ((s2.put o.dst v).own o.dst yes)) (hs : opD C n i fl o s = some s1) : Cong C n i fl o s s1 := by
  have := h s (Agree.refl o _ s)
  rw [hs] at this; cases this
  refine ⟨_, fits_id rfl (fun _ _ => rfl) (fun p h => ?_) (fun _ h => .inl h), eff_putOwn _ _ _ yes, fun s2 A => ⟨_, h s2 A, eff_putOwn _ _ _ yes⟩⟩
  cases hd : o.dst with
  | none => rw [hd] at h; cases h
  | some d =>
    rw [hd] at h
    simp only [ownP, Bool.and_eq_true] at h
    have := Pl.beq_iff.1 h.2
    subst this
    simp [dropD, Pl.ofTmp]
end
end Go.VM
