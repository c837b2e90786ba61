/- The machine over values: append. -/
import Derived.Test.YtjmcgdhekjkjfaaVM19
set_option linter.unusedSimpArgs false
set_option linter.unusedVariables false
namespace Go.VM
open Go

variable {P : Program} {C : Ctx} {st st' : St} {a : Act} {w : World} {own : Own} {β : Nat → Option Nat}
variable {o : Oper} {next : Act → World → Prop} {Q : Exit → Act → World → Prop}

theorem run_append_room' {t u ty e : TypeId} {i : TypeInfo} {d : TypeDesc} (ht : P.underlying t = some (.slice e)) (hu : P.underlying u = some d) (hd : (∃ e', d = .slice e') ∨ d = .string) (hi : P.info? e = some i)
    {base : Option Addr} {sLen sCap n : Nat} {x : Value} {news : List Value} {w' : World} (hn : (Builtin.lenOf x).run P w = .ok n w) (hf : (Builtin.firstCells i.size n x).run P w = .ok news.toArray w)
    (hroom : sLen + n ≤ sCap) (hst : ∀ ad, base = some ad → (storeCells (ad.add (sLen * i.size)) news).run P w = .ok () w') (hb : base = none → w' = w) :
    (Builtin.append_ #[t, u] ty #[.slice base sLen sCap, x]).run P w = .ok (.slice base (sLen + n) sCap) w' := by
  rcases hd with ⟨e', rfl⟩ | rfl
  · cases base with
    | none => rw [hb rfl]; simp [Builtin.append_, run_underlying ht, run_underlying hu, sizeOf, typeInfo, hi, hn, hroom, hf]
    | some ad =>
      have := hst ad rfl
      simp [Builtin.append_, run_underlying ht, run_underlying hu, sizeOf, typeInfo, hi, hn, hroom, hf, this]
  · cases base with
    | none => rw [hb rfl]; simp [Builtin.append_, run_underlying ht, run_underlying hu, sizeOf, typeInfo, hi, hn, hroom, hf]
    | some ad =>
      have := hst ad rfl
      simp [Builtin.append_, run_underlying ht, run_underlying hu, sizeOf, typeInfo, hi, hn, hroom, hf, this]

theorem run_append_grow' {t u ty e : TypeId} {i : TypeInfo} {d : TypeDesc} {z : Value} (ht : P.underlying t = some (.slice e)) (hu : P.underlying u = some d) (hd : (∃ e', d = .slice e') ∨ d = .string) (hi : P.info? e = some i) (hz : i.zero = some z)
    {base : Option Addr} {sLen sCap n : Nat} {x : Value} {olds news : List Value} (hn : (Builtin.lenOf x).run P w = .ok n w) (hf : (Builtin.firstCells i.size n x).run P w.drew = .ok news.toArray w.drew)
    (hfo : (Builtin.firstCells i.size sLen (.slice base sLen sCap)).run P w.drew = .ok olds.toArray w.drew)
    (hg : sCap < sLen + n) (h63 : ((sLen + n : Nat) : Int) ≤ 9223372036854775807) (hfit : Builtin.nextslicecap (sLen + n) sCap * i.bytes ≤ 281474976710656) :
    (Builtin.append_ #[t, u] ty #[.slice base sLen sCap, x]).run P w =
      .ok (.slice (some ⟨w.heap.size, 0, none⟩) (sLen + n) (grownCap w (sLen + n) sCap e))
        (w.drew.alloc (.cells (olds.toArray ++ news.toArray ++ Builtin.zeroCells z.cells (grownCap w (sLen + n) sCap e - (sLen + n))) e)) := by
  have hn' : ¬ (sLen + n ≤ sCap) := by omega
  have h63' : ¬ (9223372036854775807 < ((sLen : Int) + (n : Int))) := by omega
  have h48' : ¬ (281474976710656 < Builtin.nextslicecap (sLen + n) sCap * i.bytes) := by omega
  rcases hd with ⟨e', rfl⟩ | rfl
  · simp [Builtin.append_, run_underlying ht, run_underlying hu, sizeOf, typeInfo, zeroValue, hi, hz, hn, hn', h63', h48', Question.forced, hf, hfo, newRow, grownCap]
    congr 2
    apply Array.ext'
    simp [List.append_assoc]
  · simp [Builtin.append_, run_underlying ht, run_underlying hu, sizeOf, typeInfo, zeroValue, hi, hz, hn, hn', h63', h48', Question.forced, hf, hfo, newRow, grownCap]
    congr 2
    apply Array.ext'
    simp [List.append_assoc]

/-- The room behind a slice is written. -/
theorem Rel.tail (R : Rel C st a w own β) {g n0 n1 : Nat} {p q : Pl} (ho : own g = some (.pl p, n0)) {arr arr' : Array Value} {e : TypeId} (hh : w.heap[g]? = some (.cells arr e (0, 0)))
    (hs : arr'.size = arr.size) (hkeep : ∀ j, j < n0 → arr'[j]? = arr[j]?) (hle : n0 ≤ n1) :
    Rel C (st.disown (Pl.beq p)) a (w.setRow g arr') (own.set g (some (.pl q, n1))) β ∧ Ext w own (w.setRow g arr') (own.set g (some (.pl q, n1))) := by
  have E : Ext w own (w.setRow g arr') (own.set g (some (.pl q, n1))) := by
    refine ⟨rfl, rfl, rfl, by simp, fun c hc h => ?_, fun c ow n hc h => ?_, fun c arr1 e1 h => ?_, fun c n h => ?_⟩
    · have : c ≠ g := fun e => by rw [e, ho] at h; cases h
      exact ⟨setRow_other w g c arr' this, by simp [Own.set, this, h]⟩
    · by_cases ec : c = g
      · subst ec
        rw [ho] at h
        simp only [Option.some.injEq, Prod.mk.injEq] at h
        obtain ⟨rfl, rfl⟩ := h
        refine ⟨fun j hj => ?_, fun ow' n' h' => ?_⟩
        · rw [cell_setRow_same w c j arr arr' e (0, 0) hh, hkeep j hj]
          simp [World.cell?, hh]
        · simp [Own.set] at h'; omega
      · refine ⟨fun j _ => cell_of_heap (setRow_other w g c arr' ec) j, fun ow' n' h' => ?_⟩
        simp [Own.set, ec, h] at h'; omega
    · by_cases ec : c = g
      · subst ec
        rw [hh] at h; cases h
        exact ⟨arr', setRow_heap w c arr arr' e (0, 0) hh, hs⟩
      · exact ⟨arr1, by rw [setRow_other w g c arr' ec]; exact h, rfl⟩
    · have : c ≠ g := fun e => by rw [e, ho] at h; cases h
      exact ⟨setRow_other w g c arr' this, by simp [Own.set, this, h]⟩
  refine ⟨?_, E⟩
  have Rd := R.disown (Pl.beq p)
  have hne : ∀ i B b, getB st i = some B → β i = some b → b ≠ g := by
    intro i B b h1 h2 e
    subst e
    obtain ⟨b', h3, h4⟩ := R.blocks i B h1
    rw [h2] at h3; cases h3
    rcases own_blk h4 with h5 | h5 <;> rw [ho] at h5 <;> simp at h5
  refine ⟨Rd.defers, fun t x h => (Rd.tmps t x h).mono E.sub E.wide (fun _ _ h => h), ?_, Rd.fresh, Rd.gone, ?_, Rd.ob, ?_, fun gg cs h => (Rd.glob gg cs h).mono E.sub⟩
  · intro i B h
    obtain ⟨b, h1, h2⟩ := Rd.blocks i B h
    have hbg := hne i B b h h1
    exact ⟨b, h1, h2.mono E.sub E.wide (fun _ _ h => h) (setRow_other w g b arr' hbg) (by simp [Own.set, hbg])⟩
  · intro r hr x v hv
    have hrp : r ≠ p := fun e => by
      have := (hasPl_drop hr).2
      rw [e, show Pl.beq p p = true from Pl.beq_iff.2 rfl] at this; cases this
    have hv' : ValAt (st.disown (Pl.beq p)) a w β r x v := by
      cases r with
      | t t => exact hv
      | c t j => exact hv
      | b i j =>
        obtain ⟨fz, cs, b, h1, h2, h3, h4⟩ := hv
        exact ⟨fz, cs, b, h1, h2, h3, by rw [← h4]; exact (cell_of_heap (setRow_other w g b arr' (hne i _ b h1 h3)) j).symm⟩
    intro sz hsz
    rcases Rd.owns r hr x v hv' sz hsz with h0 | ⟨c, off, len, cap, h1, h2⟩
    · exact .inl h0
    · refine .inr ⟨c, off, len, cap, h1, ?_⟩
      rcases h2 with h2 | ⟨h2, h3, arr1, e1, h4, h5⟩
      · exact .inl h2
      · have hcg : c ≠ g := fun e => by rw [e, ho] at h3; simp at h3; exact hrp h3.1.symm
        exact .inr ⟨h2, by simp [Own.set, hcg, h3], arr1, e1, by rw [setRow_other w g c arr' hcg]; exact h4, h5⟩
  · intro c r h
    by_cases ec : c = g
    · subst ec; exact ⟨arr', e, setRow_heap w c arr arr' e (0, 0) hh⟩
    · simp [Own.set, ec] at h
      obtain ⟨arr1, e1, h1⟩ := Rd.plain c r h
      exact ⟨arr1, e1, by rw [setRow_other w g c arr' ec]; exact h1⟩

/-- What an append brings: where its cells lie. -/
theorem append_core (T : TOk P C.tt) (R : Rel C st a w own β) {t u ty e : Nat} {je ti tu : TI} (hti : C.tt t = some ti) (hk : ti.k = .slice e) (hje : C.tt e = some je) (htu : C.tt u = some tu) (hnu : (∃ e', tu.k = .slice e') ∨ tu.k = .str)
    (hpos : 0 < je.size) {p q : Pl} {bv xv : Value} {base : Option Addr} {len cap n : Nat} {olds news : List Value} (hbv : bv = .slice base len cap) (hlc : len ≤ cap)
    (hbase : (base = none ∧ len = 0 ∧ cap = 0) ∨ ∃ b off, base = some ⟨b, off, none⟩ ∧
      (len = cap ∨ (off = 0 ∧ own b = some (.pl p, len * je.size) ∧ ∃ arr e', w.heap[b]? = some (.cells arr e' (0, 0)) ∧ arr.size = cap * je.size)))
    (hol : olds.length = len * je.size) (hocell : ∀ b off, base = some ⟨b, off, none⟩ → ∀ j v, olds[j]? = some v → w.cell? ⟨b, off + j, none⟩ = some v) (ho1 : ∀ v ∈ olds, v.oneCell' = true)
    (hnl : news.length = n * je.size) (hn1 : ∀ v ∈ news, v.oneCell' = true)
    (hlen : (Builtin.lenOf xv).run P w = .ok n w) (hf : ∀ w', (∀ b o, w'.cell? ⟨b, o, none⟩ = w.cell? ⟨b, o, none⟩) → (Builtin.firstCells je.size n xv).run P w' = .ok news.toArray w')
    (hby : (len + n) * je.bytes ≤ room) (hsm : len + n ≤ room) :
    ∃ r w' own', (Builtin.append_ #[t, u] ty #[bv, xv]).run P w = .ok r w' ∧ Rel C (st.disown (Pl.beq p)) a w' own' β ∧ Ext w own w' own' ∧
      ((r = .slice none 0 0 ∧ base = none ∧ n = 0) ∨ ∃ b off cap', r = .slice (some ⟨b, off, none⟩) (len + n) cap' ∧ (base ≠ none ∨ n ≠ 0) ∧ len + n ≤ cap' ∧ cap' ≤ max maxLen cap ∧
        (∀ j v, (olds ++ news)[j]? = some v → Fc w' own' b (off + j) v ∨ (n = 0 ∧ base = some ⟨b, off, none⟩ ∧ w' = w ∧ own' = own)) ∧
        (len + n = cap' ∨ (off = 0 ∧ own' b = some (.pl q, (len + n) * je.size) ∧ ∃ arr e', w'.heap[b]? = some (.cells arr e' (0, 0)) ∧ arr.size = cap' * je.size))) := by
  obtain ⟨_, _, _, rt⟩ := T.get hti
  obtain ⟨_, du, _, ru⟩ := T.get htu
  obtain ⟨_, _, z, re⟩ := T.get hje
  have h1 := rt.slice hk; subst h1
  have hdu : (∃ e', du = .slice e') ∨ du = .string := by
    rcases hnu with ⟨e', hk'⟩ | hk'
    · exact .inl ⟨e', ru.slice hk'⟩
    · exact .inr (ru.str hk')
  subst hbv
  have hsz := re.size
  unfold room at hby hsm
  by_cases hroom : len + n ≤ cap
  · -- there is room, or nothing is to be appended
    rcases hbase with ⟨rfl, rfl, rfl⟩ | ⟨b, off, rfl, hown⟩
    · have hn0 : n = 0 := by omega
      subst hn0
      have hne : news = [] := List.eq_nil_of_length_eq_zero (by simpa using hnl)
      subst hne
      have hrun := run_append_room' (w' := w) (ty := ty) rt.und ru.und hdu re.hinfo (base := none) hlen (by rw [hsz]; exact hf w (fun _ _ => rfl)) hroom (fun ad h => by cases h) (fun _ => rfl)
      exact ⟨_, w, own, hrun, R.disown _, Ext.refl w own, .inl ⟨rfl, rfl, rfl⟩⟩
    · rcases hown with hlc' | ⟨rfl, hown, arr, e', hh, hs⟩
      · have hn0 : n = 0 := by omega
        subst hn0
        have hne : news = [] := List.eq_nil_of_length_eq_zero (by simpa using hnl)
        subst hne
        have hrun := run_append_room' (w' := w) (ty := ty) rt.und ru.und hdu re.hinfo (base := some ⟨b, off, none⟩) hlen (by rw [hsz]; exact hf w (fun _ _ => rfl)) hroom (fun ad h => by simp [storeCells]) (fun h => by cases h)
        refine ⟨_, w, own, hrun, R.disown _, Ext.refl w own, .inr ⟨b, off, cap, rfl, .inl (by simp), by omega, by omega, fun j v hj => .inr ⟨rfl, rfl, rfl, rfl⟩, .inl (by omega)⟩⟩
      · let arr' : Array Value := (splice (len * je.size) news arr.toList).toArray
        have hfit : len * je.size + news.length ≤ arr.size := by rw [hnl, hs, ← Nat.add_mul]; exact Nat.mul_le_mul_right _ hroom
        have hst := run_storeCells_at P b (len * je.size) e' news 0 arr w hh (by simpa using hfit) hn1
        simp only [Nat.add_zero] at hst
        have harr : (arr.toList.take (len * je.size) ++ news ++ arr.toList.drop (len * je.size + news.length)).toArray = arr' := rfl
        rw [harr] at hst
        have hrun := run_append_room' (w' := w.setRow b arr') (ty := ty) rt.und ru.und hdu re.hinfo (base := some ⟨b, 0, none⟩) hlen (by rw [hsz]; exact hf w (fun _ _ => rfl)) hroom
          (fun ad h => by cases h; rw [hsz, Addr.add_lit, Nat.zero_add]; exact hst) (fun h => by cases h)
        have hs' : arr'.size = arr.size := by simp only [arr', List.size_toArray]; rw [splice_length _ _ _ (by simpa using hfit), Array.length_toList]
        have hget : ∀ j, arr'[j]? = if j < len * je.size then arr[j]? else if j < len * je.size + news.length then news[j - len * je.size]? else arr[j]? := by
          intro j
          have := splice_get (len * je.size) news arr.toList (by simpa using hfit) j
          simp only [Array.getElem?_toList] at this
          simpa [arr'] using this
        obtain ⟨R1, E1⟩ := R.tail (q := q) (n1 := (len + n) * je.size) hown hh hs' (fun j hj => by rw [hget, if_pos hj]) (Nat.mul_le_mul_right _ (by omega))
        have hnew := setRow_heap w b arr arr' e' (0, 0) hh
        refine ⟨_, _, _, hrun, R1, E1, .inr ⟨b, 0, cap, rfl, .inl (by simp), hroom, by omega, fun j v hj => .inl ?_, .inr ⟨rfl, by simp [Own.set], arr', e', hnew, by rw [hs', hs]⟩⟩⟩
        have hjl : j < (len + n) * je.size := by
          have := (List.getElem?_eq_some_iff.1 hj).1
          rw [List.length_append, hol, hnl, ← Nat.add_mul] at this; exact this
        rw [Nat.zero_add]
        refine ⟨?_, fun ow n' h => by simp [Own.set] at h; omega, ?_⟩
        · rw [cell_setRow_same w b j arr arr' e' (0, 0) hh, hget]
          rw [List.getElem?_append] at hj
          by_cases hjo : j < len * je.size
          · rw [if_pos hjo]
            rw [if_pos (by omega)] at hj
            have := hocell b 0 rfl j v hj
            simpa [World.cell?, hh] using this
          · rw [if_neg hjo, if_pos (by rw [hnl, ← Nat.add_mul]; exact hjl)]
            rw [if_neg (by omega), hol] at hj
            exact hj
        · have hm := List.mem_of_getElem? hj
          rw [List.mem_append] at hm
          rcases hm with hm | hm
          · exact ho1 v hm
          · exact hn1 v hm
  · -- a new block
    have hfo : (Builtin.firstCells je.size len (.slice base len cap)).run P w.drew = .ok olds.toArray w.drew := by
      rcases hbase with ⟨rfl, rfl, rfl⟩ | ⟨b, off, rfl, _⟩
      · have : olds = [] := List.eq_nil_of_length_eq_zero (by simpa using hol)
        subst this
        simp [Builtin.firstCells]
      · exact run_firstCells_some (P := P) w.drew je.size len ⟨b, off, none⟩ len cap olds hol (fun j v hj => by rw [Addr.add_lit]; exact hocell b off rfl j v hj)
    have hrun := run_append_grow' (ty := ty) rt.und ru.und hdu re.hinfo re.zero (base := base) (sLen := len) (sCap := cap) hlen (by rw [hsz]; exact hf w.drew (fun _ _ => rfl)) (by rw [hsz]; exact hfo) (by omega) (by omega)
      (growslice_fits (by omega) (by rw [re.bytes]; exact hby))
    let cap' := grownCap w (len + n) cap e
    have hge : len + n ≤ cap' := grownCap_ge w (len + n) cap e
    have hcm : cap' ≤ maxLen := grownCap_le_maxLen w (len + n) cap e (by unfold maxLen; omega)
    let arr : Array Value := olds.toArray ++ news.toArray ++ Builtin.zeroCells z.cells (cap' - (len + n))
    have hzs : z.cells.size = je.size := by
      obtain ⟨z1, _⟩ := zcells_sound re.zc w own
      simp only [Array.length_toList] at z1
      rw [z1, re.zl]
    have hs : arr.size = cap' * je.size := by
      simp only [arr, Array.size_append, List.size_toArray, size_zeroCells, hzs, hol, hnl, ← Nat.add_mul]
      congr 1; omega
    have R1 := (R.drew.alloc arr e (some (.pl q, (len + n) * je.size))).disown (Pl.beq p)
    have E1 : Ext w own (w.drew.alloc (.cells arr e (0, 0))) (own.set w.heap.size (some (.pl q, (len + n) * je.size))) := (ext_drew w own).trans (ext_alloc w.drew own _ _ R.drew.plain_lt)
    have hnew := heap_alloc_new w.drew (.cells arr e (0, 0))
    refine ⟨_, _, _, hrun, R1, E1, .inr ⟨w.heap.size, 0, cap', rfl, .inr (fun h => by subst h; rcases hbase with ⟨rfl, rfl, rfl⟩ | ⟨b, off, rfl, _⟩ <;> omega), hge, by omega, fun j v hj => .inl ?_, .inr ⟨rfl, by simp [Own.set], arr, e, hnew, hs⟩⟩⟩
    have hjl : j < (len + n) * je.size := by
      have := (List.getElem?_eq_some_iff.1 hj).1
      rw [List.length_append, hol, hnl, ← Nat.add_mul] at this; exact this
    rw [Nat.zero_add]
    refine ⟨?_, fun ow n' h => by simp [Own.set] at h; omega, ?_⟩
    · have e1 : arr[j]? = some v := by
        have : j < (olds ++ news).length := by rw [List.length_append, hol, hnl, ← Nat.add_mul]; exact hjl
        simp only [arr]
        rw [Array.getElem?_append_left (by simpa using this)]
        rw [← hj]
        simp
      simp only [World.cell?, World.size_drew] at hnew ⊢
      rw [hnew]
      exact e1
    · have hm := List.mem_of_getElem? hj
      rw [List.mem_append] at hm
      rcases hm with hm | hm
      · exact ho1 v hm
      · exact hn1 v hm

end Go.VM
