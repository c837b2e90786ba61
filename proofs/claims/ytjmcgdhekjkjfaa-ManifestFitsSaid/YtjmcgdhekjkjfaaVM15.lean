/- The machine over values: what is made data. -/
import Derived.Test.YtjmcgdhekjkjfaaVM14
set_option linter.unusedSimpArgs false
set_option linter.unusedVariables false
namespace Go.VM
open Go

variable {P : Program} {C : Ctx} {st st' : St} {a : Act} {w : World} {own : Own} {β : Nat → Option Nat}
variable {o : Oper} {next : Act → World → Prop} {Q : Exit → Act → World → Prop}

theorem ext_release (w : World) (own : Own) (b : Nat) (hb : ∀ n, own b ≠ some (.far, n)) : Ext w own w (own.set b none) where
  os := rfl
  tape := rfl
  output := rfl
  size := Nat.le_refl _
  free c _ h := ⟨rfl, by simp only [Own.set]; split <;> simp_all⟩
  part c ow n _ h := ⟨fun _ _ => rfl, fun ow' n' h' => by
    simp only [Own.set] at h'
    split at h'
    · cases h'
    · rw [h] at h'; cases h'; exact Nat.le_refl _⟩
  wide := Wide.refl w
  far c n h := ⟨rfl, by
    have : c ≠ b := fun e => hb n (by rw [← e]; exact h)
    simp [Own.set, this, h]⟩

theorem own_blk {i b : Nat} {B : Blk} (h : BlkRel w own β i b B) : own b = none ∨ own b = some (.bl i, 0) := by
  cases h with
  | cells fz _ _ _ _ _ _ _ ho => cases fz <;> simp at ho <;> simp [ho]
  | ints fz _ _ _ _ _ _ _ ho => cases fz <;> simp at ho <;> simp [ho]

theorem length_freeze (st : St) (i : Nat) : (st.freeze i).blocks.length = st.blocks.length := by
  unfold St.freeze; split <;> simp
theorem tmps_freeze (st : St) (i : Nat) : (st.freeze i).tmps = st.tmps := by
  unfold St.freeze; split <;> rfl

theorem getB_freeze {i : Nat} {B : Blk} (h : getB st i = some B) (j : Nat) : getB (st.freeze i) j = if j = i then some B.freeze else getB st j := by
  have := getB_setB (B' := B.freeze) h j
  unfold St.freeze
  rw [h]
  exact this

/-- A block is written no more. -/
theorem Rel.freeze (R : Rel C st a w own β) {i b : Nat} {B : Blk} (hB : getB st i = some B) (hb : β i = some b) :
    Rel C (st.freeze i) a w (own.set b none) β ∧ Ext w own w (own.set b none) := by
  obtain ⟨b', hb', hrel⟩ := R.blocks i B hB
  rw [hb] at hb'; cases hb'
  have E := ext_release w own b (fun n h => by rcases own_blk hrel with h5 | h5 <;> rw [h] at h5 <;> simp at h5)
  have hg := getB_freeze hB
  have hown : (st.freeze i).owns = dropPl (Pl.ofBlk i) st.owns := by unfold St.freeze; rw [hB]
  refine ⟨⟨R.defers, ?_, ?_, ?_, ?_, ?_, ?_, ?_, ?_⟩, E⟩
  · intro t x h
    rw [tmps_freeze] at h
    exact (R.tmps t x h).mono E.sub E.wide (fun _ _ h => h)
  · intro j B' h
    rw [hg j] at h
    by_cases ej : j = i
    · subst ej
      rw [if_pos rfl] at h; cases h
      refine ⟨b, hb, ?_⟩
      cases hrel with
      | cells fz cs arr e h1 h2 h3 h4 h5 => exact .cells true cs arr e h1 h2 h3 (fun j x hx => (h4 j x hx).mono E.sub E.wide (fun _ _ h => h)) (by simp [Own.set])
      | ints fz k xs arr e h1 h2 h3 h5 => exact .ints true k xs arr e h1 h2 h3 (by simp [Own.set])
    · rw [if_neg ej] at h
      obtain ⟨c, h1, h2⟩ := R.blocks j B' h
      refine ⟨c, h1, h2.mono E.sub E.wide (fun _ _ h => h) rfl ?_⟩
      simp only [Own.set]
      split
      · rename_i e
        subst e
        rcases own_blk h2 with h3 | h3
        · exact h3.symm
        · rcases own_blk hrel with h4 | h4
          · exact h4.symm
          · rw [h3] at h4; simp at h4; exact absurd h4 ej
      · rfl
  · intro j hj; rw [length_freeze] at hj; exact R.fresh j hj
  · intro j hj h
    rw [length_freeze] at hj
    rw [hg j] at h
    by_cases ej : j = i
    · rw [if_pos ej] at h; cases h
    · rw [if_neg ej] at h; exact R.gone j hj h
  · intro p hp x v hv
    rw [hown] at hp
    obtain ⟨hp1, hp2⟩ := hasPl_drop hp
    have hv' : ValAt st a w β p x v := by
      cases p with
      | t t => simp only [ValAt, tmps_freeze] at hv; exact hv
      | c t j => simp only [ValAt, tmps_freeze] at hv; exact hv
      | b k j =>
        obtain ⟨fz, cs, c, h1, h2, h3, h4⟩ := hv
        have ek : k ≠ i := fun e => by simp [Pl.ofBlk, e] at hp2
        rw [hg k, if_neg ek] at h1
        exact ⟨fz, cs, c, h1, h2, h3, h4⟩
    intro sz hsz
    rcases R.owns p hp1 x v hv' sz hsz with h0 | ⟨c, off, len, cap, h1, h2⟩
    · exact .inl h0
    · refine .inr ⟨c, off, len, cap, h1, ?_⟩
      rcases h2 with h2 | ⟨h2, h3, h4⟩
      · exact .inl h2
      · refine .inr ⟨h2, ?_, h4⟩
        simp only [Own.set]
        split
        · rename_i e
          subst e
          rcases own_blk hrel with h5 | h5 <;> rw [h3] at h5 <;> simp at h5
        · exact h3
  · intro k j h
    rw [hown] at h
    obtain ⟨B1, h1⟩ := R.ob k j (hasPl_drop h).1
    rw [hg k]
    by_cases ek : k = i
    · exact ⟨B.freeze, by simp [ek]⟩
    · exact ⟨B1, by simp [ek, h1]⟩
  · intro c r h
    simp only [Own.set] at h
    split at h
    · cases h
    · exact R.plain c r h
  · exact fun g cs h => (R.glob g cs h).mono E.sub

theorem chunk_get {α : Type} (sz : Nat) : ∀ (n : Nat) (l : List α) (i : Nat) (c : List α), (chunk sz n l)[i]? = some c → i < n ∧ c = (l.drop (i * sz)).take sz
  | 0, l, i, c, h => by simp [chunk] at h
  | n + 1, l, 0, c, h => by simp [chunk] at h; simp [h]
  | n + 1, l, i + 1, c, h => by
    simp only [chunk, List.getElem?_cons_succ] at h
    obtain ⟨h1, h2⟩ := chunk_get sz n (l.drop sz) i c h
    refine ⟨by omega, ?_⟩
    rw [h2, List.drop_drop]
    congr 2
    rw [Nat.succ_mul]; omega

theorem chunk_length {α : Type} (sz : Nat) : ∀ (n : Nat) (l : List α), (chunk sz n l).length = n
  | 0, _ => rfl
  | n + 1, l => by simp [chunk, chunk_length sz n]

theorem fc_block {b : Nat} {arr : Array Value} {e : TypeId} (hh : w.heap[b]? = some (.cells arr e (0, 0))) (ho : own b = none) {j : Nat} (hj : j < arr.size) (h1 : (arr.getD j undef).oneCell' = true) :
    Fc w own b j (arr.getD j undef) :=
  ⟨cell_of_block hh hj, fun ow n h => (by rw [ho] at h; cases h), h1⟩

/-- The cells of a frozen block, as rows of data. -/
theorem rep_chunks {b off len cap sz : Nat} {arr : Array Value} {e : TypeId} {cs : List V} {ds : List D} (hh : w.heap[b]? = some (.cells arr e (0, 0))) (ho : own b = none)
    (hc : RepL w own β arr cs) (hd : allD ((cs.drop off).take (len * sz)) = some ds) (hlc : len ≤ cap) (hm : cap ≤ maxLen) (hfit : off + cap * sz ≤ arr.size) :
    RepD w own (.slice (some ⟨b, off, none⟩) len cap) (.sl sz false (chunk sz len ds)) := by
  have hds := allD_some hd
  have hle : len * sz ≤ cap * sz := Nat.mul_le_mul_right _ hlc
  have hs := hc.1
  have hlen : ds.length = len * sz := by
    have : (ds.map V.d).length = ((cs.drop off).take (len * sz)).length := by rw [hds]
    simp at this; omega
  have hget : ∀ (i r : Nat) (c : List D) (x : D), (chunk sz len ds)[i]? = some c → c[r]? = some x → r < sz ∧ off + i * sz + r < arr.size ∧ cs[off + i * sz + r]? = some (.d x) := by
    intro i r c x h1 h2
    obtain ⟨hi, hcc⟩ := chunk_get sz len ds i c h1
    have hr : r < sz := by
      have := (List.getElem?_eq_some_iff.1 h2).1
      rw [hcc] at this; simp at this; omega
    have hir : i * sz + r < len * sz := by
      have : (i + 1) * sz ≤ len * sz := Nat.mul_le_mul_right _ hi
      rw [Nat.succ_mul] at this; omega
    refine ⟨hr, by omega, ?_⟩
    rw [hcc, List.getElem?_take, if_pos hr, List.getElem?_drop] at h2
    have h3 : ((cs.drop off).take (len * sz))[i * sz + r]? = some (.d x) := by
      rw [hds, List.getElem?_map, h2]; rfl
    rw [List.getElem?_take, if_pos hir, List.getElem?_drop, ← Nat.add_assoc] at h3
    exact h3
  refine .sl sz b off len cap _ (fun i r => arr.getD (off + i * sz + r) undef) (chunk_length _ _ _) hlc hm (fun i c h => ?_) (fun i r c x h1 h2 => ?_) (fun i r c x h1 h2 => ?_)
  · obtain ⟨hi, hcc⟩ := chunk_get sz len ds i c h
    have : (i + 1) * sz ≤ len * sz := Nat.mul_le_mul_right _ hi
    rw [Nat.succ_mul] at this
    rw [hcc]; simp; omega
  · obtain ⟨h3, h4, h5⟩ := hget i r c x h1 h2
    exact fc_block hh ho h4 (hc.2.1 _ h4)
  · obtain ⟨h3, h4, h5⟩ := hget i r c x h1 h2
    exact inv_d (hc.2.2 _ _ h5)

theorem asD_sound (R : Rel C st a w own β) {v : V} {x : D} (h : asD C st v = some (x, st')) {u : Value} (hu : RepV w own β u v) :
    ∃ own', Rel C st' a w own' β ∧ Ext w own w own' ∧ RepD w own' u x ∧ st'.tmps = st.tmps ∧ st'.blocks.length = st.blocks.length := by
  unfold asD at h
  split at h
  · cases h; exact ⟨own, R, Ext.refl w own, inv_d hu, rfl, rfl⟩
  · rename_i i off len cap sz
    cases hu with | mu _ _ _ _ _ b ad hb hsp hc hm ha hbb =>
    have had : ad = ⟨ad.block, ad.off, none⟩ := by cases ad; simp at hsp; simp [hsp]
    split at h
    · rename_i fz k xs hB
      cases hsz : Nat.beq sz 1 with
      | false => rw [hsz] at h; cases h
      | true =>
        rw [hsz] at h
        simp only [cond_true, Option.some.injEq, Prod.mk.injEq] at h
        obtain ⟨rfl, rfl⟩ := h
        have := Nat.eq_of_beq_eq_true hsz
        subst this
        obtain ⟨R1, E1⟩ := R.freeze hB hb
        refine ⟨_, R1, E1, ?_, tmps_freeze _ _, length_freeze _ _⟩
        obtain ⟨b', h1, h2⟩ := R.blocks _ _ hB
        rw [hb] at h1; cases h1
        cases h2 with | ints _ _ _ arr e hh hs hr ho =>
        rw [had]
        by_cases h0 : cap = 0
        · have : len = 0 := by omega
          subst this
          exact .nums k _ _ 0 cap _ (by simp) hc hm (fun i x hx => by simp at hx) (fun i x hx => by simp at hx)
        · obtain ⟨arr', e', h3, h4⟩ := hbb h0
          rw [hh] at h3; cases h3
          have ha' := ha h0
          rw [ha'] 
          have hget : ∀ (i : Nat) (x : Int), ((xs.drop off).take len)[i]? = some x → xs[off + i]? = some x := by
            intro i x hx
            rw [List.getElem?_take] at hx
            split at hx
            · rw [List.getElem?_drop] at hx; exact hx
            · cases hx
          refine .nums k b off len cap _ (by simp; omega) hc hm (fun i x hx => ?_) (fun i x hx => (hr _ x (hget i x hx)).2)
          have hx' := hget i x hx
          have hlt : off + i < arr.size := by rw [hs]; exact (List.getElem?_eq_some_iff.1 hx').1
          have := fc_block (own := own.set b none) hh (by simp [Own.set]) hlt (by rw [(hr _ x hx').1]; rfl)
          rw [(hr _ x hx').1] at this
          exact this
    · rename_i fz cs hB
      split at h
      · rename_i ds hds
        simp only [Option.some.injEq, Prod.mk.injEq] at h
        obtain ⟨rfl, rfl⟩ := h
        obtain ⟨R1, E1⟩ := R.freeze hB hb
        refine ⟨_, R1, E1, ?_, tmps_freeze _ _, length_freeze _ _⟩
        obtain ⟨b', h1, h2⟩ := R.blocks _ _ hB
        rw [hb] at h1; cases h1
        cases h2 with | cells _ _ arr e hh hs h1 hr ho =>
        rw [had]
        by_cases h0 : cap = 0
        · have : len = 0 := by omega
          subst this
          exact .sl sz _ _ 0 cap _ (fun _ _ => undef) (by simp [chunk]) hc hm (fun i c hx => by simp [chunk] at hx) (fun i r c x hx => by simp [chunk] at hx) (fun i r c x hx => by simp [chunk] at hx)
        · obtain ⟨arr', e', h3, h4⟩ := hbb h0
          rw [hh] at h3; cases h3
          rw [ha h0]
          exact rep_chunks (β := β) hh (by simp [Own.set]) ⟨hs, h1, fun j x hx => (hr j x hx).mono E1.sub E1.wide (fun _ _ h => h)⟩ hds hc hm h4
      · cases h
    · cases h
  · rename_i i off
    obtain ⟨b, hb, rfl⟩ := inv_ptr hu
    split at h
    · rename_i fz cs hB
      split at h
      · rename_i ds hds
        simp only [Option.some.injEq, Prod.mk.injEq] at h
        obtain ⟨rfl, rfl⟩ := h
        obtain ⟨R1, E1⟩ := R.freeze hB hb
        refine ⟨_, R1, E1, ?_, tmps_freeze _ _, length_freeze _ _⟩
        obtain ⟨b', h1, h2⟩ := R.blocks _ _ hB
        rw [hb] at h1; cases h1
        cases h2 with | cells _ _ arr e hh hs h1 hr ho =>
        have hds' := allD_some hds
        have hget : ∀ (j : Nat) (x : D), ds[j]? = some x → cs[off + j]? = some (.d x) := by
          intro j x hx
          have : (cs.drop off)[j]? = some (.d x) := by rw [hds', List.getElem?_map, hx]; rfl
          rw [List.getElem?_drop] at this; exact this
        refine .fp b off ds (fun j => arr.getD (off + j) undef) (fun j x hx => ?_) (fun j x hx => ?_)
        · have hx' := hget j x hx
          have hlt : off + j < arr.size := by rw [hs]; exact (List.getElem?_eq_some_iff.1 hx').1
          exact fc_block hh (by simp [Own.set]) hlt (h1 _ hlt)
        · exact inv_d ((hr _ _ (hget j x hx)).mono E1.sub E1.wide (fun _ _ h => h))
      · cases h
    · cases h
  · rename_i g off
    cases hu
    split at h
    · rename_i cs hcs
      cases h
      refine ⟨own, R, Ext.refl w own, ?_, rfl, rfl⟩
      have := (R.glob g cs hcs).drop off
      rw [Nat.zero_add] at this
      exact inv_d (repV_fp (β := β) this)
    · cases h
  · cases h

theorem makeInterface_sound (T : TOk P C.tt) (R : Rel C st a w own β) {t : Nat} {x : Operand} (hop : o.op = .makeInterface t x) (hd : ∀ t, o.dst = some t → t < a.tmps.size) {slot : Option Nat}
    (h : evOp C slot o st = some st') (hn : Next C st w own β a.tmps.size st' next) : o.wp P a w next Q := by
  simp only [evOp, hop] at h
  split at h
  · rename_i v hv
    split at h
    · rename_i d st1 i hd' hi
      obtain ⟨info, ds, z, row⟩ := T.get hi
      obtain ⟨own', R1, E1, hr, _, hlen⟩ := asD_sound R hd' (evO_sound R hv)
      split at h
      · cases h
      · rename_i hne
        cases h
        have htk := row.tk
        have hrun : (execOp a.eval o).run P w = .ok (.value (.iface t (a.eval x))) w := by
          cases ds <;> first
            | (simp [execOp, hop, Instr.makeInterface, row.run_und]; done)
            | (exfalso; cases hk : i.k <;> rw [hk] at htk <;> simp [tkOk] at htk; exact hne hk)
        refine wp_value hrun (next_put R1 hd (.d _ _ (.ifc t _ _ hr)) (Next.of E1 (by omega) (fun _ _ _ h => h) hn))
    · cases h
  · cases h

theorem evCaps_sound (R : Rel C st a w own β) : ∀ {xs : List Operand} {vs : List V}, evCaps C st xs = some vs → vs.length = xs.length ∧
    ∀ (j : Nat) (v : V), vs[j]? = some v → RepV w own β ((xs.map a.eval).getD j undef) v
  | [], vs, h => by simp [evCaps] at h; subst h; exact ⟨rfl, fun j v h => by simp at h⟩
  | x :: xs, vs, h => by
    have step : ∀ (v : V) (vs' : List V), evO C st 0 x = some v → evCaps C st xs = some vs' → vs = v :: vs' → vs.length = (x :: xs).length ∧
        ∀ (j : Nat) (u : V), vs[j]? = some u → RepV w own β (((x :: xs).map a.eval).getD j undef) u := by
      intro v vs' hv hvs e
      subst e
      obtain ⟨h1, h2⟩ := evCaps_sound R hvs
      refine ⟨by simp [h1], fun j u hu => ?_⟩
      cases j with
      | zero => simp at hu; subst hu; simpa using evO_sound R hv
      | succ j => simpa using h2 j u (by simpa using hu)
    simp only [evCaps] at h
    split at h
    · split at h
      · cases h; exact step _ _ (by assumption) (by assumption) rfl
      · cases h
    · split at h
      · cases h; exact step _ _ (by assumption) (by assumption) rfl
      · cases h
    · split at h
      · cases h; exact step _ _ (by assumption) (by assumption) rfl
      · cases h
    · cases h

theorem makeFunc_sound (R : Rel C st a w own β) {f : FuncId} {first caps : Array Operand} (hop : o.op = .makeFunc (.func f) first caps) (hd : ∀ t, o.dst = some t → t < a.tmps.size) {slot : Option Nat}
    (h : evOp C slot o st = some st') (hn : Next C st w own β a.tmps.size st' next) : o.wp P a w next Q := by
  simp only [evOp, hop] at h
  split at h
  · rename_i cs hz hcs
    cases h
    have hf : first = #[] := Array.eq_empty_of_size_eq_zero hz
    subst hf
    obtain ⟨h1, h2⟩ := evCaps_sound R hcs
    have hrun : (execOp a.eval o).run P w = .ok (.value (.func (.func f) #[] (caps.map a.eval))) w := by simp [execOp, hop, Instr.makeFunc]
    refine wp_value hrun (next_put R hd (.fn f _ cs (by simp [h1]) (fun j x hx => ?_)) hn)
    have := h2 j x hx
    rw [← getD_toList]
    simpa using this
  · cases h

end Go.VM
