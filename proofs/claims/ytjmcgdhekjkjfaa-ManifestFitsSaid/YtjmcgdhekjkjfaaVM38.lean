/- The machine over values: regions whose order is open. -/
import Derived.Test.YtjmcgdhekjkjfaaVM37
set_option linter.unusedSimpArgs false
set_option linter.unusedVariables false
namespace Go.VM
open Go

variable {P : Program} {C : Ctx} {ops : Array Oper} {n : Nat} {fl : List Nat} {s s1 s2 : St}

def stepD (C : Ctx) (ops : Array Oper) (n : Nat) (fl : List Nat) (i : Nat) (s : St) : Option St :=
  match ops[i]? with
  | none => none
  | some o => match wantedV ops s o with
    | some true => opD C n i (hasNat i fl) o s
    | some false => some (s.put o.dst .skip)
    | none => none

def runL (C : Ctx) (ops : Array Oper) (n : Nat) (fl : List Nat) : List Nat → St → Option St
  | [], s => some s
  | i :: l, s => match stepD C ops n fl i s with
    | some s => runL C ops n fl l s
    | none => none

def guardT (ops : Array Oper) (o : Oper) : List Nat :=
  match o.guard with
  | some (g, _) => match ops[g]? with
    | some og => match og.dst with
      | some t => [t]
      | none => []
    | none => []
  | none => []

def slotsOf (ops : Array Oper) (o : Oper) : List Nat :=
  tmpsL o.op.operands.toList ++ guardT ops o ++ usesT o ++ (match usesC o with | some (x, _) => [x] | none => [])

def noDst (d : Option Nat) (l : List Nat) : Bool :=
  match d with
  | some t => !l.contains t
  | none => true

def apartV (ops : Array Oper) (x y : Oper) : Bool :=
  noDst x.dst (slotsOf ops y) && noDst y.dst (slotsOf ops x) && (match x.dst with | some d => noDst y.dst [d] | none => true)

/-- May the second be ahead of the first? -/
def pairOk (ops : Array Oper) (fl : List Nat) (k j : Nat) (x y : Oper) : Bool :=
  apartV ops x y && (usesT x).all (fun t => !(usesT y).contains t) && (match usesC x with | some a => !(usesC y == some a) | none => true) &&
  !(isWr x && isWr y) && (!(isWr x && isRd y) || (hasNat k fl && hasNat j fl && isLoad y)) && (!(isRd x && isWr y) || (hasNat k fl && hasNat j fl && isLoad x)) &&
  (!(isNew x && isRd y) || (hasNat j fl && isLoad y)) && !(isNew x && isWr y)

def drawOk (ops : Array Oper) (fl : List Nat) : Bool :=
  (List.range ops.size).all fun j => match ops[j]? with
    | some y => y.after.toList.all (fun e => !Region.binds .any e || Nat.blt e.on j) && (List.range j).all fun k => match ops[k]? with
      | some x => y.after.toList.any (fun e => Region.binds .any e && Nat.beq e.on k) || pairOk ops fl k j x y
      | none => true
    | none => true

theorem wantedV_same {o : Oper} (h : ∀ t ∈ guardT ops o, look t s2.tmps = look t s.tmps) : wantedV ops s2 o = wantedV ops s o := by
  unfold wantedV
  unfold guardT at h
  cases hg : o.guard with
  | none => rfl
  | some g =>
    obtain ⟨j, want⟩ := g
    rw [hg] at h
    simp only at h ⊢
    cases ho : ops[j]? with
    | none => rfl
    | some oj =>
      rw [ho] at h
      simp only at h ⊢
      cases hd : oj.dst with
      | none => rfl
      | some t =>
        rw [hd] at h
        simp only at h ⊢
        rw [h t (List.mem_singleton_self t)]

theorem step_cong (hl : C.lin = []) {i : Nat} {o : Oper} (ho : ops[i]? = some o) (h : stepD C ops n fl i s = some s1) :
    ∃ δ, Fits o n (hasNat i fl) (n + i) s δ ∧ Eff δ s s1 ∧ ∀ s2, (∀ t ∈ guardT ops o, look t s2.tmps = look t s.tmps) → (wantedV ops s o = some true → Agree o (n + i) s s2) →
      ∃ s2', stepD C ops n fl i s2 = some s2' ∧ Eff δ s2 s2' := by
  simp only [stepD, ho] at h
  split at h
  · rename_i hw
    obtain ⟨δ, h1, h2, h3⟩ := opD_cong hl h
    refine ⟨δ, h1, h2, fun s2 g A => ?_⟩
    obtain ⟨s2', e1, e2⟩ := h3 s2 (A hw)
    exact ⟨s2', by simp only [stepD, ho, wantedV_same g, hw]; exact e1, e2⟩
  · rename_i hw
    cases h
    exact ⟨_, fits_put .skip, eff_put _ _ _, fun s2 g _ => ⟨_, by simp only [stepD, ho, wantedV_same g, hw], eff_put _ _ _⟩⟩
  · cases h

theorem step_same (hl : C.lin = []) {i : Nat} (hs : Same s s2) (h : stepD C ops n fl i s = some s1) : ∃ s2', stepD C ops n fl i s2 = some s2' ∧ Same s1 s2' := by
  cases ho : ops[i]? with
  | none => simp [stepD, ho] at h
  | some o =>
    obtain ⟨δ, _, h2, h3⟩ := step_cong hl ho h
    obtain ⟨s2', e1, e2⟩ := h3 s2 (fun t _ => (hs.look t).symm) (fun _ => ⟨fun t _ => (hs.look t).symm, fun _ t _ v _ j _ B hB => ⟨B, by rw [← hs.blk]; exact hB, rfl⟩,
      fun _ t _ _ v _ j _ B hB => (by rw [← hs.blk]; exact hB), fun p _ => (hs.own p).symm, fun _ hg => by rw [← hs.blk]; exact hg⟩)
    exact ⟨s2', e1, h2.same hs e2⟩

theorem runL_same (hl : C.lin = []) : ∀ {l : List Nat} {s s2 sf : St}, Same s s2 → runL C ops n fl l s = some sf → ∃ sf', runL C ops n fl l s2 = some sf' ∧ Same sf sf'
  | [], s, s2, sf, hs, h => by
    simp only [runL, Option.some.injEq] at h
    subst h
    exact ⟨s2, rfl, hs⟩
  | i :: l, s, s2, sf, hs, h => by
    simp only [runL] at h
    split at h
    · rename_i s1 h1
      obtain ⟨s2', e1, e2⟩ := step_same hl hs h1
      obtain ⟨sf', e3, e4⟩ := runL_same hl e2 h
      exact ⟨sf', by simp only [runL, e1]; exact e3, e4⟩
    · cases h

theorem hasFl {o : Oper} {i : Nat} {f : Bool} (hld : isLoad o = true) (hf : f = true) (h : opD C n i f o s = some s1) : ∀ t v, Operand.tmp t ∈ o.op.operands.toList → look t s.tmps = some v → ∀ r ∈ refs v, r < n := by
  subst hf
  cases hop : o.op <;> simp [isLoad, hop] at hld
  rename_i ty x
  intro t v ht hv r hr
  simp [Op.operands] at ht
  subst ht
  simp only [opD, hop] at h
  split at h
  · cases h
  · rename_i e
    simp only [Bool.true_and, Bool.not_eq_false', refsO, hv] at e
    have : ∀ l : List Nat, allLt n l = true → r ∈ l → r < n := by
      intro l
      induction l with
      | nil => intro _ h; simp at h
      | cons a l ih =>
        intro h1 h2
        simp only [allLt] at h1
        cases e1 : Nat.blt a n with
        | false => rw [e1] at h1; cases h1
        | true =>
          rw [e1] at h1
          rcases List.mem_cons.1 h2 with rfl | h2
          · simpa [Nat.blt_eq] using e1
          · exact ih h1 h2
    exact this _ e hr

theorem noDst_not {d : Option Nat} {l : List Nat} (h : noDst d l = true) {t : Nat} (ht : t ∈ l) : d ≠ some t := by
  intro e
  subst e
  simp [noDst] at h
  exact h ht

structure Pair (fl : List Nat) (ops : Array Oper) (k j : Nat) (x y : Oper) : Prop where
  xy : ∀ t ∈ slotsOf ops y, x.dst ≠ some t
  yx : ∀ t ∈ slotsOf ops x, y.dst ≠ some t
  dst : ∀ d, x.dst = some d → y.dst ≠ some d
  us : ∀ t ∈ usesT x, t ∉ usesT y
  uc : ∀ a, usesC x = some a → usesC y ≠ some a
  ww : isWr x = true → isWr y = true → False
  wr : isWr x = true → isRd y = true → hasNat k fl = true ∧ hasNat j fl = true ∧ isLoad y = true
  rw : isRd x = true → isWr y = true → hasNat k fl = true ∧ hasNat j fl = true ∧ isLoad x = true
  nr : isNew x = true → isRd y = true → hasNat j fl = true ∧ isLoad y = true
  nw : isNew x = true → isWr y = true → False

theorem pairOk_spec {k j : Nat} {x y : Oper} (h : pairOk ops fl k j x y = true) : Pair fl ops k j x y := by
  simp only [pairOk, apartV, Bool.and_eq_true, Bool.or_eq_true, Bool.not_eq_true', List.all_eq_true] at h
  obtain ⟨⟨⟨⟨⟨⟨⟨⟨⟨h1, h2⟩, h3⟩, h4⟩, h5⟩, h6⟩, h7⟩, h8⟩, h9⟩, h10⟩ := h
  refine ⟨fun t ht => noDst_not h1 ht, fun t ht => noDst_not h2 ht, fun d hd => ?_, fun t ht hc => ?_, fun a ha hb => ?_, fun a b => ?_, fun a b => ?_, fun a b => ?_, fun a b => ?_, fun a b => ?_⟩
  · rw [hd] at h3
    exact noDst_not h3 (List.mem_singleton_self d)
  · have := h4 t ht
    simp at this
    exact this hc
  · rw [ha, hb] at h5
    simp at h5
  · rw [a, b] at h6; cases h6
  · rw [a, b] at h7; simpa [and_assoc] using h7
  · rw [a, b] at h8; simpa [and_assoc] using h8
  · rw [a, b] at h9; simpa [and_assoc] using h9
  · rw [a, b] at h10; cases h10

theorem mem_slots_op {o : Oper} {t : Nat} (h : Operand.tmp t ∈ o.op.operands.toList) : t ∈ slotsOf ops o := by
  simp only [slotsOf, List.mem_append]; exact .inl (.inl (.inl (mem_tmpsL.2 h)))
theorem mem_slots_gd {o : Oper} {t : Nat} (h : t ∈ guardT ops o) : t ∈ slotsOf ops o := by
  simp only [slotsOf, List.mem_append]; exact .inl (.inl (.inr h))
theorem mem_slots_us {o : Oper} {t : Nat} (h : t ∈ usesT o) : t ∈ slotsOf ops o := by
  simp only [slotsOf, List.mem_append]; exact .inl (.inr h)
theorem mem_slots_uc {o : Oper} {t j : Nat} (h : usesC o = some (t, j)) : t ∈ slotsOf ops o := by
  simp only [slotsOf, List.mem_append, h]; exact .inr (List.mem_singleton_self t)

theorem uses_slot {o : Oper} {p : Pl} (h : uses o p = true) : ∃ t, t ∈ slotsOf ops o ∧ Pl.ofTmp t p = true := by
  cases p with
  | t x => exact ⟨x, mem_slots_us (by simpa [uses] using h), by simp [Pl.ofTmp]⟩
  | c x j => exact ⟨x, mem_slots_uc (j := j) (by simpa [uses] using h), by simp [Pl.ofTmp]⟩
  | b _ _ => cases h

theorem ofTmp_inj {d e : Nat} {p : Pl} (h1 : Pl.ofTmp d p = true) (h2 : Pl.ofTmp e p = true) : d = e := by
  cases p <;> simp [Pl.ofTmp] at h1 h2 <;> omega

theorem dropD_iff {dst : Option Nat} {p : Pl} : dropD dst p = true ↔ ∃ d, dst = some d ∧ Pl.ofTmp d p = true := by
  cases dst <;> simp [dropD]

/-- What one adds the other one doesn't drop. -/
theorem add_drop {x y : Oper} {f g : Bool} {k j : Nat} {sx sy : St} {dx dy : Dl} (hxy : ∀ t ∈ slotsOf ops y, x.dst ≠ some t) (hdst : ∀ d, x.dst = some d → y.dst ≠ some d)
    (hblk : isWr x = true → (isRd y = true ∧ isLoad y = false ∨ isWr y = true) → False)
    (fx : Fits x n f (n + k) sx dx) (fy : Fits y n g (n + j) sy dy) : ∀ p, dx.add p = true → dy.drop p = false := by
  intro p hp
  cases hd : dy.drop p with
  | false => rfl
  | true =>
    exfalso
    rcases fx.add p hp with h1 | ⟨h1, i1, j1, rfl⟩
    · obtain ⟨d, e1, e2⟩ := dropD_iff.1 h1
      rcases fy.drop p hd with h2 | h2 | ⟨_, i2, j2, rfl⟩
      · obtain ⟨e, e3, e4⟩ := dropD_iff.1 h2
        have := ofTmp_inj e2 e4
        subst this
        exact hdst _ e1 e3
      · obtain ⟨t, e3, e4⟩ := uses_slot (ops := ops) h2
        have := ofTmp_inj e2 e4
        subst this
        exact hxy _ e3 e1
      · simp [Pl.ofTmp] at e2
    · rcases fy.drop _ hd with h2 | h2 | ⟨h3, _⟩
      · obtain ⟨e, e3, e4⟩ := dropD_iff.1 h2
        simp [Pl.ofTmp] at e4
      · cases h2
      · exact hblk h1 h3

theorem blkEq_of {δ : Dl} {i : Nat} (he : getB s1 i = δ.b i (getB s i)) (h : (∀ x, δ.b i x = x) ∨ (∀ x, δ.b i x = x.map Blk.freeze)) : BlkEq s s1 i ∧ BlkEq s1 s i := by
  rcases h with h | h
  · rw [h] at he
    exact ⟨fun B hB => ⟨B, by rw [he]; exact hB, rfl⟩, fun B hB => ⟨B, by rw [← he]; exact hB, rfl⟩⟩
  · rw [h] at he
    refine ⟨fun B hB => ⟨B.freeze, by rw [he, hB]; rfl, freeze_freeze B⟩, fun B hB => ?_⟩
    rw [he] at hB
    cases e : getB s i with
    | none => rw [e] at hB; cases hB
    | some B0 => rw [e] at hB; cases hB; exact ⟨B0, rfl, (freeze_freeze B0).symm⟩

/-- Who uses a place sees whose it is. -/
theorem own_kept {x y : Oper} {f : Bool} {k : Nat} {δ : Dl} (hxy : ∀ t ∈ slotsOf ops y, x.dst ≠ some t) (hus : ∀ t ∈ usesT y, t ∉ usesT x) (huc : ∀ a, usesC y = some a → usesC x ≠ some a)
    {s0 : St} (fx : Fits x n f (n + k) s0 δ) (e : Eff δ s s1) : ∀ p, uses y p = true → hasPl p s1.owns = hasPl p s.owns := by
  intro p hp
  rw [e.own]
  obtain ⟨t, ht1, ht2⟩ := uses_slot (ops := ops) hp
  have hnb : ∀ i j, p ≠ .b i j := fun i j h => by subst h; cases hp
  have ha : δ.add p = false := by
    cases h : δ.add p with
    | false => rfl
    | true =>
      exfalso
      rcases fx.add p h with h1 | ⟨_, i, j, h1⟩
      · obtain ⟨d, e1, e2⟩ := dropD_iff.1 h1
        have := ofTmp_inj ht2 e2
        subst this
        exact hxy _ ht1 e1
      · exact hnb i j h1
  have hd : δ.drop p = false := by
    cases h : δ.drop p with
    | false => rfl
    | true =>
      exfalso
      rcases fx.drop p h with h1 | h1 | ⟨_, i, j, h1⟩
      · obtain ⟨d, e1, e2⟩ := dropD_iff.1 h1
        have := ofTmp_inj ht2 e2
        subst this
        exact hxy _ ht1 e1
      · cases p with
        | t z => simp only [uses, List.contains_iff_mem] at hp h1; exact hus z hp h1
        | c z j => simp only [uses, beq_iff_eq] at hp h1; exact huc _ hp h1
        | b i j => cases hp
      · exact hnb i j h1
  rw [ha, hd]; simp

theorem isNew_class {o : Oper} (h : isNew o = true) : isRd o = false ∧ isWr o = false ∧ isLoad o = false := by
  cases hop : o.op <;> simp [isNew, isRd, isWr, isLoad, hop] at h ⊢
theorem isWr_class {o : Oper} (h : isWr o = true) : isRd o = false ∧ isNew o = false := by
  cases hop : o.op <;> simp [isNew, isRd, isWr, hop] at h ⊢
theorem isRd_class {o : Oper} (h : isRd o = true) : isWr o = false ∧ isNew o = false := by
  cases hop : o.op <;> simp [isNew, isRd, isWr, hop] at h ⊢

theorem swap (hl : C.lin = []) {k j : Nat} (hkj : k ≠ j) {x y : Oper} (hx : ops[k]? = some x) (hy : ops[j]? = some y) (hp : pairOk ops fl k j x y = true)
    (h1 : stepD C ops n fl k s = some s1) (h2 : stepD C ops n fl j s1 = some s2) :
    ∃ s' s'', stepD C ops n fl j s = some s' ∧ stepD C ops n fl k s' = some s'' ∧ Same s2 s'' := by
  have p := pairOk_spec hp
  obtain ⟨dx, fx, ex, cx⟩ := step_cong hl hx h1
  obtain ⟨dy, fy, ey, cy⟩ := step_cong hl hy h2
  have lookx : ∀ t ∈ slotsOf ops y, look t s1.tmps = look t s.tmps := fun t ht => by
    rw [ex.look, if_neg]; rw [fx.dst]; exact p.xy t ht
  have loadY : wantedV ops s1 y = some true → hasNat j fl = true → isLoad y = true → ∀ t v, Operand.tmp t ∈ y.op.operands.toList → look t s1.tmps = some v → ∀ r ∈ refs v, r < n := by
    intro hw hf hld
    simp only [stepD, hy, hw] at h2
    exact hasFl hld hf h2
  have loadX : wantedV ops s x = some true → hasNat k fl = true → isLoad x = true → ∀ t v, Operand.tmp t ∈ x.op.operands.toList → look t s.tmps = some v → ∀ r ∈ refs v, r < n := by
    intro hw hf hld
    simp only [stepD, hx, hw] at h1
    exact hasFl hld hf h1
  obtain ⟨s', g1, g2⟩ := cy s (fun t ht => (lookx t (mem_slots_gd ht)).symm) (fun hw => by
    refine ⟨fun t ht => (lookx t (mem_slots_op ht)).symm, fun hr t ht v hv i hi => ?_, fun ty t q hop v hv i hi B hB => ?_, fun q hq => ?_, fun hn hg => ?_⟩
    · refine (blkEq_of (δ := dx) (ex.blk i) ?_).2
      cases hxr : isRd x with
      | true => exact (fx.rd hxr i).imp id (·.1)
      | false =>
        cases hxw : isWr x with
        | true =>
          obtain ⟨q1, q2, q3⟩ := p.wr hxw hr
          have hlt := loadY hw q2 q3 t v ht hv i hi
          rcases fx.wr hxw i with e | ⟨_, e⟩
          · exact .inl e
          · have := e q1; omega
        | false =>
          cases hxn : isNew x with
          | true =>
            obtain ⟨q2, q3⟩ := p.nr hxn hr
            have hlt := loadY hw q2 q3 t v ht hv i hi
            exact .inl fun z => fx.nw hxn i z (.inl (by omega))
          | false => exact .inl (fx.no hxr hxw hxn i)
    · have hyw : isWr y = true := by simp [isWr, hop]
      rw [ex.blk] at hB
      have hid : ∀ z, dx.b i z = z := by
        cases hxr : isRd x with
        | true => exact fx.ld (p.rw hxr hyw).2.2 i
        | false =>
          cases hxw : isWr x with
          | true => exact (p.ww hxw hyw).elim
          | false =>
            cases hxn : isNew x with
            | true => exact (p.nw hxn hyw).elim
            | false => exact fx.no hxr hxw hxn i
      rw [hid] at hB
      exact hB
    · exact (own_kept (ops := ops) p.xy (fun t h1 h2 => p.us t h2 h1) (fun a h1 h2 => p.uc a h2 h1) fx ex q hq).symm
    · rw [ex.blk] at hg
      cases e : getB s (n + j) with
      | none => rfl
      | some B =>
        have := fx.som (n + j) (getB s (n + j)) (by simp [e])
        rw [hg] at this; cases this)
  have looky : ∀ t ∈ slotsOf ops x, look t s'.tmps = look t s.tmps := fun t ht => by
    rw [g2.look, if_neg]; rw [fy.dst]; exact p.yx t ht
  obtain ⟨s'', g3, g4⟩ := cx s' (fun t ht => looky t (mem_slots_gd ht)) (fun hw => by
    refine ⟨fun t ht => looky t (mem_slots_op ht), fun hr t ht v hv i hi => ?_, fun ty t q hop v hv i hi B hB => ?_, fun q hq => ?_, fun hn hg => ?_⟩
    · cases hyn : isNew y with
      | true =>
        intro B hB
        refine ⟨B, ?_, rfl⟩
        rw [g2.blk, fy.nw hyn i _ (.inr (by simp [hB]))]; exact hB
      | false =>
        refine (blkEq_of (δ := dy) (g2.blk i) ?_).1
        cases hyr : isRd y with
        | true => exact (fy.rd hyr i).imp id (·.1)
        | false =>
          cases hyw : isWr y with
          | true =>
            obtain ⟨q1, q2, q3⟩ := p.rw hr hyw
            have hlt := loadX hw q1 q3 t v ht hv i hi
            rcases fy.wr hyw i with e | ⟨_, e⟩
            · exact .inl e
            · have := e q2; omega
          | false => exact .inl (fy.no hyr hyw hyn i)
    · have hxw : isWr x = true := by simp [isWr, hop]
      rw [g2.blk]
      cases hyr : isRd y with
      | true => rw [fy.ld (p.wr hxw hyr).2.2 i]; exact hB
      | false =>
        cases hyw : isWr y with
        | true => exact (p.ww hxw hyw).elim
        | false =>
          cases hyn : isNew y with
          | true => rw [fy.nw hyn i _ (.inr (by simp [hB]))]; exact hB
          | false => rw [fy.no hyr hyw hyn i]; exact hB
    · exact own_kept (ops := ops) p.yx (fun t h1 h2 => p.us t h1 h2) (fun a h1 h2 => p.uc a h1 h2) fy g2 q hq
    · rw [g2.blk]
      cases hyr : isRd y with
      | true => rw [fy.ld (p.nr hn hyr).2]; exact hg
      | false =>
        cases hyw : isWr y with
        | true => exact (p.nw hn hyw).elim
        | false =>
          cases hyn : isNew y with
          | true => rw [fy.nw hyn _ _ (.inl (by omega))]; exact hg
          | false => rw [fy.no hyr hyw hyn]; exact hg)
  refine ⟨s', s'', g1, g3, Eff.comm (d1 := dx) (d2 := dy) ?_ ?_ ?_ ?_ ex ey g2 g4⟩
  · intro d hd
    rw [fx.dst] at hd
    rw [fy.dst]
    exact p.dst d hd
  · intro i
    cases hxr : isRd x with
    | true =>
      cases hxl : isLoad x with
      | true => rw [fx.ld hxl, fx.ld hxl]
      | false =>
        rcases fx.rd hxr i with e | ⟨e, hsome, _⟩
        · rw [e, e]
        · cases hyr : isRd y with
          | true =>
            rcases fy.rd hyr i with e2 | ⟨e2, _⟩
            · rw [e2, e2]
            · rw [e2, e, e, e2]
          | false =>
            cases hyw : isWr y with
            | true =>
              have := (p.rw hxr hyw).2.2
              rw [hxl] at this; cases this
            | false =>
              cases hyn : isNew y with
              | true => rw [fy.nw hyn i _ (.inr hsome), fy.nw hyn i _ (.inr (fx.som i _ hsome))]
              | false => rw [fy.no hyr hyw hyn, fy.no hyr hyw hyn]
    | false =>
      cases hxw : isWr x with
      | true =>
        cases hyr : isRd y with
        | true =>
          have hyl := (p.wr hxw hyr).2.2
          rw [fy.ld hyl, fy.ld hyl]
        | false =>
          cases hyw : isWr y with
          | true => exact (p.ww hxw hyw).elim
          | false =>
            cases hyn : isNew y with
            | true =>
              rcases fx.wr hxw i with e | ⟨hsome, _⟩
              · rw [e, e]
              · rw [fy.nw hyn i _ (.inr hsome), fy.nw hyn i _ (.inr (fx.som i _ hsome))]
            | false => rw [fy.no hyr hyw hyn, fy.no hyr hyw hyn]
      | false =>
        cases hxn : isNew x with
        | true =>
          cases hyr : isRd y with
          | true =>
            have hyl := (p.nr hxn hyr).2
            rw [fy.ld hyl, fy.ld hyl]
          | false =>
            cases hyw : isWr y with
            | true => exact (p.nw hxn hyw).elim
            | false =>
              cases hyn : isNew y with
              | true =>
                by_cases hi : i = n + k
                · have : i ≠ n + j := by omega
                  rw [fy.nw hyn i _ (.inl this), fy.nw hyn i _ (.inl this)]
                · rw [fx.nw hxn i _ (.inl hi), fx.nw hxn i _ (.inl hi)]
              | false => rw [fy.no hyr hyw hyn, fy.no hyr hyw hyn]
        | false => rw [fx.no hxr hxw hxn, fx.no hxr hxw hxn]
  · refine add_drop (ops := ops) p.xy p.dst (fun hw h => ?_) fx fy
    rcases h with ⟨hr, hld⟩ | h
    · have := (p.wr hw hr).2.2; rw [hld] at this; cases this
    · exact p.ww hw h
  · refine add_drop (ops := ops) p.yx (fun d h1 h2 => p.dst d h2 h1) (fun hw h => ?_) fy fx
    rcases h with ⟨hr, hld⟩ | h
    · have := (p.rw hr hw).2.2; rw [hld] at this; cases this
    · exact p.ww h hw

end Go.VM
