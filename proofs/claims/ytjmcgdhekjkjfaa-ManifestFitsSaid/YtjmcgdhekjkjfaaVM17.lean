/- The machine over values: cuts. -/
import Derived.Test.YtjmcgdhekjkjfaaVM16
set_option linter.unusedSimpArgs false
set_option linter.unusedVariables false
namespace Go.VM
open Go

variable {P : Program} {C : Ctx} {st st' : St} {a : Act} {w : World} {own : Own} {β : Nat → Option Nat}
variable {o : Oper} {next : Act → World → Prop} {Q : Exit → Act → World → Prop}

theorem run_bound {k : IntKind} {n : Int} {y : Nat} {code : BoundsCode} (h0 : 0 ≤ n) (h1 : n ≤ y) : (Instr.sliceBound (.int k n) y code).run P w = .ok n.toNat w := by
  simp [Instr.sliceBound, asIntOf, h0, h1]

/-- A bound that may be left out. -/
def BndIs (x : Option Value) (n : Option Int) : Prop := match x, n with
  | none, none => True
  | some v, some m => ∃ k, v = .int k m
  | _, _ => False

theorem run_bounds2 {isSlice : Bool} {len cap : Nat} {lo hi : Option Value} {l : Int} {h : Option Int} (hl : lo = none ∧ l = 0 ∨ ∃ k, lo = some (.int k l)) (hh : BndIs hi h)
    (h0 : 0 ≤ l) (h1 : l ≤ h.getD len) (h2 : h.getD len ≤ cap) : (Instr.sliceBounds isSlice len cap lo hi none).run P w = .ok (l.toNat, (h.getD len).toNat, cap) w := by
  unfold BndIs at hh
  split at hh
  · simp only [Option.getD_none] at h1 h2 ⊢
    rcases hl with ⟨rfl, rfl⟩ | ⟨k, rfl⟩
    · simp [Instr.sliceBounds]
    · have hb := run_bound (P := P) (w := w) (k := k) (n := l) (y := len) (code := .sliceB) h0 h1
      simp [Instr.sliceBounds, hb]
  · rename_i v m
    obtain ⟨k', rfl⟩ := hh
    simp only [Option.getD_some] at h1 h2 ⊢
    have hb := run_bound (P := P) (w := w) (k := k') (n := m) (y := cap) (code := if isSlice then .sliceAcap else .sliceAlen) (by omega) h2
    rcases hl with ⟨rfl, rfl⟩ | ⟨k, rfl⟩
    · simp [Instr.sliceBounds, hb]
    · have hb' := run_bound (P := P) (w := w) (k := k) (n := l) (y := m.toNat) (code := .sliceB) h0 (by omega)
      simp [Instr.sliceBounds, hb, hb']
  · cases hh

theorem run_bounds3 {isSlice : Bool} {len cap : Nat} {lo : Option Value} {l h m : Int} {kh km : IntKind} (hl : lo = none ∧ l = 0 ∨ ∃ k, lo = some (.int k l))
    (h0 : 0 ≤ l) (h1 : l ≤ h) (h2 : h ≤ m) (h3 : m ≤ cap) : (Instr.sliceBounds isSlice len cap lo (some (.int kh h)) (some (.int km m))).run P w = .ok (l.toNat, h.toNat, m.toNat) w := by
  have hm := run_bound (P := P) (w := w) (k := km) (n := m) (y := cap) (code := if isSlice then .slice3Acap else .slice3Alen) (by omega) h3
  have hh := run_bound (P := P) (w := w) (k := kh) (n := h) (y := m.toNat) (code := .slice3B) (by omega) (by omega)
  rcases hl with ⟨rfl, rfl⟩ | ⟨k, rfl⟩
  · simp [Instr.sliceBounds, hm, hh]
  · have hb' := run_bound (P := P) (w := w) (k := k) (n := l) (y := h.toNat) (code := .slice3C) h0 (by omega)
    simp [Instr.sliceBounds, hm, hh, hb']

theorem bnd_sound (R : Rel C st a w own β) {x : Option Operand} {n : Int} (h : bnd C st x 0 = some n) : (x.map a.eval = none ∧ n = 0) ∨ ∃ k, x.map a.eval = some (.int k n) := by
  unfold bnd at h
  split at h
  · cases h; exact .inl ⟨rfl, rfl⟩
  · split at h
    · cases h
      exact .inr ⟨_, by rw [Option.map_some, (inv_int (evO_sound R (by assumption))).1]⟩
    · cases h

theorem bytesI_extract (s : ByteArray) (l h : Nat) (hh : h ≤ s.size) : bytesI (s.extract l h) = ((bytesI s).take h).drop l := by
  simp only [bytesI, ByteArray.data_extract, Array.toList_extract, List.extract_eq_take_drop]
  rw [← List.map_take, ← List.map_drop, List.take_drop]
  by_cases hl : l ≤ h
  · rw [show l + (h - l) = h by omega]
  · have e1 : h - l = 0 := by omega
    rw [List.drop_eq_nil_of_le (by simp; omega), List.drop_eq_nil_of_le (by simp; omega)]

theorem map_add_lit (b off n : Nat) : (some (⟨b, off, none⟩ : Addr)).map (·.add n) = some ⟨b, off + n, none⟩ := by simp [Addr.add_lit]

/-- x[l:h]. -/
theorem evSlice2_sound (T : TOk P C.tt) (R : Rel C st a w own β) {t : Nat} {x v : V} {ow : Bool} {l : Int} {h : Option Int} {u : Value} {lo hi : Option Value} (hu : RepV w own β u x)
    (hl : (lo = none ∧ l = 0) ∨ ∃ k, lo = some (.int k l)) (hh : BndIs hi h) (he : evSlice C st t x l h none = some (v, ow)) :
    ow = false ∧ ∃ r, (Instr.sliceAt t u lo hi none).run P w = .ok r w ∧ RepV w own β r v := by
  unfold evSlice at he
  split at he
  · rename_i s
    split at he
    · rename_i _ _ _ _ _ hti _
      obtain ⟨info, ds, z, row⟩ := T.get hti
      have := row.str rfl; subst this
      simp only at he
      obtain ⟨s', rfl, rfl, hsm⟩ := inv_str hu
      have e1 : (bytesI s').length = s'.size := by simp [bytesI]
      rw [e1] at he
      cases hc : decide (0 ≤ l) && decide (l ≤ h.getD s'.size) && decide (h.getD s'.size ≤ s'.size) with
      | false => rw [hc] at he; cases he
      | true =>
        rw [hc] at he
        simp only [cond_true, Option.some.injEq, Prod.mk.injEq] at he
        obtain ⟨rfl, rfl⟩ := he
        simp only [Bool.and_eq_true, decide_eq_true_eq] at hc
        obtain ⟨⟨h0, h1⟩, h2⟩ := hc
        refine ⟨rfl, _, ?_, .d _ _ (.str _ _ (bytesI_extract s' l.toNat (h.getD s'.size).toNat (by omega)) (by simp; omega))⟩
        have hb := run_bounds2 (P := P) (w := w) (isSlice := false) (len := s'.size) (cap := s'.size) hl hh h0 h1 h2
        simp [Instr.sliceAt, row.run_und, Instr.slice, hb]
    · cases he
  · rename_i k nl xs
    split at he
    · rename_i e _ _ _ _ _ hti
      obtain ⟨info, ds, z, row⟩ := T.get hti
      have := row.slice rfl; subst this
      split at he
      · rename_i j hj
        obtain ⟨info', ds', z', row'⟩ := T.get hj
        simp only [Option.getD_none] at he
        cases hc : Nat.beq j.size 1 && decide (0 ≤ l) && decide (l ≤ h.getD xs.length) && decide (h.getD xs.length ≤ xs.length) && decide ((xs.length : Int) ≤ xs.length) with
        | false => rw [hc] at he; cases he
        | true =>
          rw [hc] at he
          simp only [cond_true, Option.some.injEq, Prod.mk.injEq, Option.isSome_none, Bool.false_and] at he
          obtain ⟨rfl, rfl⟩ := he
          simp only [Bool.and_eq_true, decide_eq_true_eq] at hc
          obtain ⟨⟨⟨⟨hsz, h0⟩, h1⟩, h2⟩, _⟩ := hc
          have hs1 := Nat.eq_of_beq_eq_true hsz
          refine ⟨rfl, ?_⟩
          have hpd := inv_d hu
          generalize hh' : h.getD xs.length = H at h1 h2
          cases hpd with
          | numsNil =>
            have hb := run_bounds2 (P := P) (w := w) (isSlice := true) (len := 0) (cap := 0) hl hh h0 (by rw [show h.getD (0:Nat) = H from hh']; exact h1) (by rw [show h.getD (0:Nat) = H from hh']; simpa using h2)
            rw [show h.getD (0:Nat) = H from hh'] at hb
            have hH : H = 0 := by simp at h2; omega
            have hl0 : l = 0 := by omega
            subst hH hl0
            refine ⟨.slice none 0 0, ?_, .d _ _ (by simpa using RepD.numsNil k)⟩
            simp [Instr.sliceAt, row.run_und, Instr.slice, hb, row'.run_size]
          | nums _ b off len cap _ hlen hcap hm hf hw =>
            subst hlen
            have hb := run_bounds2 (P := P) (w := w) (isSlice := true) (len := xs.length) (cap := cap) hl hh h0 (by rw [hh']; exact h1) (by rw [hh']; omega)
            rw [hh'] at hb
            have hrun : (Instr.sliceAt t (.slice (some ⟨b, off, none⟩) xs.length cap) lo hi none).run P w =
                .ok (.slice (some (if cap = l.toNat then ⟨b, off, none⟩ else ⟨b, off + l.toNat, none⟩)) (H.toNat - l.toNat) (cap - l.toNat)) w := by
              simp [Instr.sliceAt, row.run_und, Instr.slice, hb, row'.run_size, hs1, Addr.add_lit]
              split <;> rfl
            refine ⟨_, hrun, .d _ _ ?_⟩
            have hlen : ((xs.take H.toNat).drop l.toNat).length = H.toNat - l.toNat := by simp; omega
            have hget : ∀ (i : Nat) (x : Int), ((xs.take H.toNat).drop l.toNat)[i]? = some x → xs[l.toNat + i]? = some x ∧ l.toNat + i < H.toNat := by
              intro i x hx
              rw [List.getElem?_drop, List.getElem?_take] at hx
              split at hx
              · exact ⟨hx, by assumption⟩
              · cases hx
            by_cases hcl : cap = l.toNat
            · rw [if_pos hcl]
              exact .nums k b off _ _ _ hlen (by omega) (by omega) (fun i x hx => by have := hget i x hx; omega) (fun i x hx => hw _ x (hget i x hx).1)
            · rw [if_neg hcl]
              exact .nums k b _ _ _ _ hlen (by omega) (by omega) (fun i x hx => by rw [Nat.add_assoc]; exact hf _ x (hget i x hx).1) (fun i x hx => hw _ x (hget i x hx).1)
      · cases he
    · cases he
  · rename_i sz nl xs
    split at he
    · rename_i e _ _ _ _ _ hti
      obtain ⟨info, ds, z, row⟩ := T.get hti
      have := row.slice rfl; subst this
      split at he
      · rename_i j hj
        obtain ⟨info', ds', z', row'⟩ := T.get hj
        simp only [Option.getD_none] at he
        cases hc : Nat.beq j.size sz && decide (0 ≤ l) && decide (l ≤ h.getD xs.length) && decide (h.getD xs.length ≤ xs.length) && decide ((xs.length : Int) ≤ xs.length) with
        | false => rw [hc] at he; cases he
        | true =>
          rw [hc] at he
          simp only [cond_true, Option.some.injEq, Prod.mk.injEq, Option.isSome_none, Bool.false_and] at he
          obtain ⟨rfl, rfl⟩ := he
          simp only [Bool.and_eq_true, decide_eq_true_eq] at hc
          obtain ⟨⟨⟨⟨hsz, h0⟩, h1⟩, h2⟩, _⟩ := hc
          have hs1 := Nat.eq_of_beq_eq_true hsz
          refine ⟨rfl, ?_⟩
          have hpd := inv_d hu
          generalize hh' : h.getD xs.length = H at h1 h2
          cases hpd with
          | slNil =>
            have hb := run_bounds2 (P := P) (w := w) (isSlice := true) (len := 0) (cap := 0) hl hh h0 (by rw [show h.getD (0:Nat) = H from hh']; exact h1) (by rw [show h.getD (0:Nat) = H from hh']; simpa using h2)
            rw [show h.getD (0:Nat) = H from hh'] at hb
            have hH : H = 0 := by simp at h2; omega
            have hl0 : l = 0 := by omega
            subst hH hl0
            refine ⟨.slice none 0 0, ?_, .d _ _ (by simpa using RepD.slNil sz)⟩
            simp [Instr.sliceAt, row.run_und, Instr.slice, hb, row'.run_size]
          | sl _ b off len cap _ val hlen hcap hm hsz' hf hr =>
            subst hlen
            have hb := run_bounds2 (P := P) (w := w) (isSlice := true) (len := xs.length) (cap := cap) hl hh h0 (by rw [hh']; exact h1) (by rw [hh']; omega)
            rw [hh'] at hb
            have hrun : (Instr.sliceAt t (.slice (some ⟨b, off, none⟩) xs.length cap) lo hi none).run P w =
                .ok (.slice (some (if cap = l.toNat then ⟨b, off, none⟩ else ⟨b, off + l.toNat * sz, none⟩)) (H.toNat - l.toNat) (cap - l.toNat)) w := by
              simp [Instr.sliceAt, row.run_und, Instr.slice, hb, row'.run_size, hs1, Addr.add_lit]
              split <;> rfl
            refine ⟨_, hrun, .d _ _ ?_⟩
            have hlen : ((xs.take H.toNat).drop l.toNat).length = H.toNat - l.toNat := by simp; omega
            have hget : ∀ (i : Nat) (x : List D), ((xs.take H.toNat).drop l.toNat)[i]? = some x → xs[l.toNat + i]? = some x ∧ l.toNat + i < H.toNat := by
              intro i x hx
              rw [List.getElem?_drop, List.getElem?_take] at hx
              split at hx
              · exact ⟨hx, by assumption⟩
              · cases hx
            by_cases hcl : cap = l.toNat
            · rw [if_pos hcl]
              exact .sl sz b off _ _ _ (fun i r => val (l.toNat + i) r) hlen (by omega) (by omega) (fun i c hx => hsz' _ c (hget i c hx).1) (fun i r c x hx => by have := hget i c hx; omega)
                (fun i r c x hx h2 => hr _ r c x (hget i c hx).1 h2)
            · rw [if_neg hcl]
              exact .sl sz b _ _ _ _ (fun i r => val (l.toNat + i) r) hlen (by omega) (by omega) (fun i c hx => hsz' _ c (hget i c hx).1)
                (fun i r c x hx h2 => by rw [show off + l.toNat * sz + i * sz + r = off + (l.toNat + i) * sz + r by rw [Nat.add_mul]; omega]; exact hf _ r c x (hget i c hx).1 h2)
                (fun i r c x hx h2 => hr _ r c x (hget i c hx).1 h2)
      · cases he
    · cases he
  · rename_i b off len cap sz
    split at he
    · rename_i e _ _ _ _ _ hti
      obtain ⟨info, ds, z, row⟩ := T.get hti
      have := row.slice rfl; subst this
      split at he
      · rename_i j hj _
        obtain ⟨info', ds', z', row'⟩ := T.get hj
        simp only at he
        cases hc : Nat.beq j.size sz && decide (0 ≤ l) && decide (l ≤ h.getD len) && decide (h.getD len ≤ cap) with
        | false => rw [hc] at he; cases he
        | true =>
          rw [hc] at he
          simp only [cond_true, Option.some.injEq, Prod.mk.injEq] at he
          obtain ⟨rfl, rfl⟩ := he
          simp only [Bool.and_eq_true, decide_eq_true_eq] at hc
          obtain ⟨⟨⟨hsz, h0⟩, h1⟩, h2⟩ := hc
          have hs1 := Nat.eq_of_beq_eq_true hsz
          refine ⟨rfl, ?_⟩
          cases hu with | mu _ _ _ _ _ pb ad hb hsp hcl hm ha hbb =>
          have hbd := run_bounds2 (P := P) (w := w) (isSlice := true) (len := len) (cap := cap) hl hh h0 h1 h2
          generalize hh' : h.getD len = H at h1 h2 hbd
          have hrun : (Instr.sliceAt t (.slice (some ad) len cap) lo hi none).run P w =
              .ok (.slice (some (if cap = l.toNat then ad else ad.add (l.toNat * sz))) (H.toNat - l.toNat) (cap - l.toNat)) w := by
            simp [Instr.sliceAt, row.run_und, Instr.slice, hbd, row'.run_size, hs1]
            split <;> rfl
          refine ⟨_, hrun, .mu _ _ _ _ _ pb _ hb ?_ (by omega) (by omega) (fun h3 => ?_) (fun h3 => ?_)⟩
          · split
            · exact hsp
            · cases ad; simp at hsp; subst hsp; simp [Addr.add_lit]
          · have hc0 : cap ≠ 0 := by omega
            rw [if_neg (by omega), ha hc0, Addr.add_lit]
          · have hc0 : cap ≠ 0 := by omega
            obtain ⟨arr, e', h4, h5⟩ := hbb hc0
            refine ⟨arr, e', h4, ?_⟩
            have : l.toNat * sz + (cap - l.toNat) * sz = cap * sz := by rw [← Nat.add_mul]; congr 1; omega
            omega
      · cases he
    · cases he
  · rename_i b off
    split at he
    · rename_i n e _ _ _ _ _ hti
      obtain ⟨info, ds, z, row⟩ := T.get hti
      have := row.arr rfl; subst this
      split at he
      · rename_i j hj _
        obtain ⟨info', ds', z', row'⟩ := T.get hj
        simp only at he
        cases hc : Nat.blt 0 j.size && decide (0 ≤ l) && decide (l ≤ h.getD n) && decide (h.getD n ≤ n) && Nat.ble (off + n * j.size) (blkLen (getB st b)) && Nat.ble n 1000000 with
        | false => rw [hc] at he; cases he
        | true =>
          rw [hc] at he
          simp only [cond_true, Option.some.injEq, Prod.mk.injEq] at he
          obtain ⟨rfl, rfl⟩ := he
          simp only [Bool.and_eq_true, decide_eq_true_eq] at hc
          obtain ⟨⟨⟨⟨⟨hsz, h0⟩, h1⟩, h2⟩, h3⟩, h4⟩ := hc
          have h3 := Nat.le_of_ble_eq_true h3
          have h4 := Nat.le_of_ble_eq_true h4
          have hpos : 0 < j.size := by simpa [Nat.blt_eq] using hsz
          refine ⟨rfl, ?_⟩
          obtain ⟨pb, hpb, rfl⟩ := inv_ptr hu
          have hbd := run_bounds2 (P := P) (w := w) (isSlice := false) (len := n) (cap := n) hl hh h0 h1 h2
          generalize hh' : h.getD n = H at h1 h2 hbd
          have hrun : (Instr.sliceAt t (.pointer (some ⟨pb, off, none⟩)) lo hi none).run P w =
              .ok (.slice (some (if n = l.toNat then ⟨pb, off, none⟩ else ⟨pb, off + l.toNat * j.size, none⟩)) (H.toNat - l.toNat) (n - l.toNat)) w := by
            simp [Instr.sliceAt, row.run_und, Instr.sureAddr, hbd, row'.run_size, Addr.add_lit]
          refine ⟨_, hrun, .mu _ _ _ _ _ pb _ hpb ?_ (by omega) (by unfold maxLen; omega) (fun h5 => ?_) (fun h5 => ?_)⟩
          · split <;> rfl
          · rw [if_neg (by omega)]
          · have harr : ∃ arr e, w.heap[pb]? = some (.cells arr e (0, 0)) ∧ blkLen (getB st b) = arr.size := by
              cases hB : getB st b with
              | none =>
                rw [hB] at h3
                simp only [blkLen] at h3
                have : n * j.size = 0 := by omega
                have : 0 < n * j.size := Nat.mul_pos (by omega) hpos
                omega
              | some B =>
                obtain ⟨b', h6, h7⟩ := R.blocks _ _ hB
                rw [hpb] at h6; cases h6
                cases h7 with
                | cells fz cs arr e hh hs _ _ _ => exact ⟨arr, e, hh, by simp [blkLen, hs]⟩
                | ints fz k xs arr e hh hs _ _ => exact ⟨arr, e, hh, by simp [blkLen, hs]⟩
            obtain ⟨arr, e', h6, h7⟩ := harr
            refine ⟨arr, e', h6, ?_⟩
            have : l.toNat * j.size + (n - l.toNat) * j.size = n * j.size := by rw [← Nat.add_mul]; congr 1; omega
            omega
      · cases he
    · cases he
  · cases he

/-- x[l:h:m]. -/
theorem evSlice3_sound (T : TOk P C.tt) {t : Nat} {x v : V} {ow : Bool} {l h m : Int} {u : Value} {lo : Option Value} {kh km : IntKind} (hu : RepV w own β u x)
    (hl : (lo = none ∧ l = 0) ∨ ∃ k, lo = some (.int k l)) (he : evSlice C st t x l (some h) (some m) = some (v, ow)) :
    ∃ r, (Instr.sliceAt t u lo (some (.int kh h)) (some (.int km m))).run P w = .ok r w ∧ RepV w own β r v ∧ (ow = true → ∀ p, OwnsAt w own p r v) := by
  unfold evSlice at he
  split at he
  · split at he
    · rename_i hc; cases hc
    · cases he
  · rename_i k nl xs
    split at he
    · rename_i e _ _ _ _ _ hti
      obtain ⟨info, ds, z, row⟩ := T.get hti
      have := row.slice rfl; subst this
      split at he
      · rename_i j hj
        obtain ⟨info', ds', z', row'⟩ := T.get hj
        simp only [Option.getD_some] at he
        cases hc : Nat.beq j.size 1 && decide (0 ≤ l) && decide (l ≤ h) && decide (h ≤ m) && decide (m ≤ (xs.length : Int)) with
        | false => rw [hc] at he; cases he
        | true =>
          rw [hc] at he
          simp only [cond_true, Option.some.injEq, Prod.mk.injEq, Option.isSome_some, Bool.true_and] at he
          obtain ⟨rfl, rfl⟩ := he
          simp only [Bool.and_eq_true, decide_eq_true_eq] at hc
          obtain ⟨⟨⟨⟨hsz, h0⟩, h1⟩, h2⟩, h3⟩ := hc
          have hs1 := Nat.eq_of_beq_eq_true hsz
          have hpd := inv_d hu
          cases hpd with
          | numsNil =>
            have hb := run_bounds3 (P := P) (w := w) (isSlice := true) (len := 0) (cap := 0) (kh := kh) (km := km) hl h0 h1 h2 (by simpa using h3)
            have hm : m = 0 := by simp at h3; omega
            have hh : h = 0 := by omega
            have hl0 : l = 0 := by omega
            subst hm hh hl0
            refine ⟨.slice none 0 0, ?_, .d _ _ (by simpa using RepD.numsNil k), fun _ p sz _ => .inl rfl⟩
            simp [Instr.sliceAt, row.run_und, Instr.slice, hb, row'.run_size]
          | nums _ b off len cap _ hlen hcap hm hf hw =>
            subst hlen
            have hb := run_bounds3 (P := P) (w := w) (isSlice := true) (len := xs.length) (cap := cap) (kh := kh) (km := km) hl h0 h1 h2 (by omega)
            have hrun : (Instr.sliceAt t (.slice (some ⟨b, off, none⟩) xs.length cap) lo (some (.int kh h)) (some (.int km m))).run P w =
                .ok (.slice (some (if m.toNat = l.toNat then ⟨b, off, none⟩ else ⟨b, off + l.toNat, none⟩)) (h.toNat - l.toNat) (m.toNat - l.toNat)) w := by
              simp [Instr.sliceAt, row.run_und, Instr.slice, hb, row'.run_size, hs1, Addr.add_lit]
              split <;> rfl
            have hlen : ((xs.take h.toNat).drop l.toNat).length = h.toNat - l.toNat := by simp; omega
            have hget : ∀ (i : Nat) (x : Int), ((xs.take h.toNat).drop l.toNat)[i]? = some x → xs[l.toNat + i]? = some x ∧ l.toNat + i < h.toNat := by
              intro i x hx
              rw [List.getElem?_drop, List.getElem?_take] at hx
              split at hx
              · exact ⟨hx, by assumption⟩
              · cases hx
            refine ⟨_, hrun, .d _ _ ?_, fun how p sz _ => .inr ?_⟩
            · by_cases hcl : m.toNat = l.toNat
              · rw [if_pos hcl]
                exact .nums k b off _ _ _ hlen (by omega) (by omega) (fun i x hx => by have := hget i x hx; omega) (fun i x hx => hw _ x (hget i x hx).1)
              · rw [if_neg hcl]
                exact .nums k b _ _ _ _ hlen (by omega) (by omega) (fun i x hx => by rw [Nat.add_assoc]; exact hf _ x (hget i x hx).1) (fun i x hx => hw _ x (hget i x hx).1)
            · have : h = m := by simpa using how
              subst this
              split
              · exact ⟨_, _, _, _, rfl, .inl rfl⟩
              · exact ⟨_, _, _, _, rfl, .inl rfl⟩
      · cases he
    · cases he
  · rename_i sz nl xs
    split at he
    · rename_i e _ _ _ _ _ hti
      obtain ⟨info, ds, z, row⟩ := T.get hti
      have := row.slice rfl; subst this
      split at he
      · rename_i j hj
        obtain ⟨info', ds', z', row'⟩ := T.get hj
        simp only [Option.getD_some] at he
        cases hc : Nat.beq j.size sz && decide (0 ≤ l) && decide (l ≤ h) && decide (h ≤ m) && decide (m ≤ (xs.length : Int)) with
        | false => rw [hc] at he; cases he
        | true =>
          rw [hc] at he
          simp only [cond_true, Option.some.injEq, Prod.mk.injEq, Option.isSome_some, Bool.true_and] at he
          obtain ⟨rfl, rfl⟩ := he
          simp only [Bool.and_eq_true, decide_eq_true_eq] at hc
          obtain ⟨⟨⟨⟨hsz, h0⟩, h1⟩, h2⟩, h3⟩ := hc
          have hs1 := Nat.eq_of_beq_eq_true hsz
          have hpd := inv_d hu
          cases hpd with
          | slNil =>
            have hb := run_bounds3 (P := P) (w := w) (isSlice := true) (len := 0) (cap := 0) (kh := kh) (km := km) hl h0 h1 h2 (by simpa using h3)
            have hm : m = 0 := by simp at h3; omega
            have hh : h = 0 := by omega
            have hl0 : l = 0 := by omega
            subst hm hh hl0
            refine ⟨.slice none 0 0, ?_, .d _ _ (by simpa using RepD.slNil sz), fun _ p sz _ => .inl rfl⟩
            simp [Instr.sliceAt, row.run_und, Instr.slice, hb, row'.run_size]
          | sl _ b off len cap _ val hlen hcap hm hsz' hf hr =>
            subst hlen
            have hb := run_bounds3 (P := P) (w := w) (isSlice := true) (len := xs.length) (cap := cap) (kh := kh) (km := km) hl h0 h1 h2 (by omega)
            have hrun : (Instr.sliceAt t (.slice (some ⟨b, off, none⟩) xs.length cap) lo (some (.int kh h)) (some (.int km m))).run P w =
                .ok (.slice (some (if m.toNat = l.toNat then ⟨b, off, none⟩ else ⟨b, off + l.toNat * sz, none⟩)) (h.toNat - l.toNat) (m.toNat - l.toNat)) w := by
              simp [Instr.sliceAt, row.run_und, Instr.slice, hb, row'.run_size, hs1, Addr.add_lit]
              split <;> rfl
            have hlen : ((xs.take h.toNat).drop l.toNat).length = h.toNat - l.toNat := by simp; omega
            have hget : ∀ (i : Nat) (x : List D), ((xs.take h.toNat).drop l.toNat)[i]? = some x → xs[l.toNat + i]? = some x ∧ l.toNat + i < h.toNat := by
              intro i x hx
              rw [List.getElem?_drop, List.getElem?_take] at hx
              split at hx
              · exact ⟨hx, by assumption⟩
              · cases hx
            refine ⟨_, hrun, .d _ _ ?_, fun how p sz' _ => .inr ?_⟩
            · by_cases hcl : m.toNat = l.toNat
              · rw [if_pos hcl]
                exact .sl sz b off _ _ _ (fun i r => val (l.toNat + i) r) hlen (by omega) (by omega) (fun i c hx => hsz' _ c (hget i c hx).1) (fun i r c x hx => by have := hget i c hx; omega)
                  (fun i r c x hx h2 => hr _ r c x (hget i c hx).1 h2)
              · rw [if_neg hcl]
                exact .sl sz b _ _ _ _ (fun i r => val (l.toNat + i) r) hlen (by omega) (by omega) (fun i c hx => hsz' _ c (hget i c hx).1)
                  (fun i r c x hx h2 => by rw [show off + l.toNat * sz + i * sz + r = off + (l.toNat + i) * sz + r by rw [Nat.add_mul]; omega]; exact hf _ r c x (hget i c hx).1 h2)
                  (fun i r c x hx h2 => hr _ r c x (hget i c hx).1 h2)
            · have : h = m := by simpa using how
              subst this
              split
              · exact ⟨_, _, _, _, rfl, .inl rfl⟩
              · exact ⟨_, _, _, _, rfl, .inl rfl⟩
      · cases he
    · cases he
  · split at he
    · split at he
      · rename_i hc; cases hc
      · cases he
    · cases he
  · split at he
    · split at he
      · rename_i hc; cases hc
      · cases he
    · cases he
  · cases he

theorem slice_sound (T : TOk P C.tt) (R : Rel C st a w own β) {t : Nat} {x : Operand} {lo hi mx : Option Operand} (hop : o.op = .slice t x lo hi mx) (hd : ∀ t, o.dst = some t → t < a.tmps.size) {slot : Option Nat}
    (h : evOp C slot o st = some st') (hn : Next C st w own β a.tmps.size st' next) : o.wp P a w next Q := by
  simp only [evOp, hop] at h
  split at h
  · rename_i v l hv hl
    have hpr := evO_sound R hv
    have hlo := bnd_sound R hl
    split at h
    · split at h
      · rename_i r ow hr
        cases h
        obtain ⟨rfl, y, hrun, hy⟩ := evSlice2_sound (P := P) (h := none) (hi := none) T R hpr hlo trivial hr
        have hrun' : (execOp a.eval o).run P w = .ok (.value y) w := by simp [execOp, hop, hrun]
        exact wp_value hrun' (next_own R hd hy (fun h => by cases h) hn)
      · cases h
    · rename_i oh
      split at h
      · rename_i hh hbh
        split at h
        · rename_i r ow hr
          cases h
          have hb2 := bnd_sound R hbh
          rcases hb2 with ⟨h1, _⟩ | ⟨k, hk⟩
          · cases h1
          · obtain ⟨rfl, y, hrun, hy⟩ := evSlice2_sound (P := P) (h := some hh) (hi := some (.int k hh)) T R hpr hlo ⟨k, rfl⟩ hr
            have hk' : a.eval oh = .int k hh := by simpa using hk
            have hrun' : (execOp a.eval o).run P w = .ok (.value y) w := by simp [execOp, hop, hk', hrun]
            exact wp_value hrun' (next_own R hd hy (fun h => by cases h) hn)
        · cases h
      · cases h
    · rename_i oh om
      split at h
      · rename_i hh mm hbh hbm
        split at h
        · rename_i r ow hr
          cases h
          rcases bnd_sound R hbh with ⟨h1, _⟩ | ⟨k, hk⟩
          · cases h1
          · rcases bnd_sound R hbm with ⟨h1, _⟩ | ⟨k2, hk2⟩
            · cases h1
            · obtain ⟨y, hrun, hy, how⟩ := evSlice3_sound (P := P) (kh := k) (km := k2) T hpr hlo hr
              have hk' : a.eval oh = .int k hh := by simpa using hk
              have hk2' : a.eval om = .int k2 mm := by simpa using hk2
              have hrun' : (execOp a.eval o).run P w = .ok (.value y) w := by simp [execOp, hop, hk', hk2', hrun]
              exact wp_value hrun' (next_own R hd hy how hn)
        · cases h
      · cases h
    · cases h
  · cases h

end Go.VM
