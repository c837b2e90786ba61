/- The machine over values: conversions, cuts. -/
import Derived.Test.YtjmcgdhekjkjfaaVM15
set_option linter.unusedSimpArgs false
set_option linter.unusedVariables false
namespace Go.VM
open Go

variable {P : Program} {C : Ctx} {st st' : St} {a : Act} {w : World} {own : Own} {β : Nat → Option Nat}
variable {o : Oper} {next : Act → World → Prop} {Q : Exit → Act → World → Prop}

theorem own_fresh (R : Rel C st a w own β) : own w.heap.size = none := by
  cases h : own w.heap.size with
  | none => rfl
  | some r =>
    obtain ⟨arr, e, h'⟩ := R.plain _ r h
    have := lt_of_heap h'
    omega

/-- A new block that is nobody's. -/
theorem Rel.allocFree (R : Rel C st a w own β) {w' : World} {ob : Obj} (hos : w'.os = w.os) (ht : w'.tape = w.tape) (hou : w'.output = w.output) (hh : w'.heap = w.heap.push ob) :
    Rel C st a w' own β ∧ Ext w own w' own := by
  have hold : ∀ b, b < w.heap.size → w'.heap[b]? = w.heap[b]? := fun b hb => by
    rw [hh, Array.getElem?_push, if_neg (by omega)]
  have E : Ext w own w' own := ⟨hos, ht, hou, by rw [hh]; simp, fun b hb h => ⟨hold b hb, h⟩,
    fun b ow n hb h => ⟨fun p _ => cell_of_heap (hold b hb) p, fun ow' n' h' => by rw [h] at h'; cases h'; exact Nat.le_refl _⟩,
    fun b arr e h => ⟨arr, by rw [hold b (lt_of_heap h)]; exact h, rfl⟩, fun b n h => ⟨hold b (R.plain_lt b _ h), h⟩⟩
  refine ⟨R.ext E (fun i B b h hb => ⟨hold b (R.β_lt h hb), rfl⟩) (fun _ _ _ h => h) (fun b r h => ?_), E⟩
  obtain ⟨arr, e, h'⟩ := R.plain b r h
  exact ⟨arr, e, by rw [hold b (lt_of_heap h')]; exact h'⟩

theorem own_sound (R : Rel C st a w own β) {dst : Option Nat} {yes : Bool} {x : V} {v : Value}
    (hv : RepV w own β v x) (hd : ∀ t, dst = some t → t < a.tmps.size) (ho : yes = true → ∀ p, OwnsAt w own p v x) :
    Rel C ((st.put dst x).own dst yes) (a.put dst v) w own β := by
  have R1 := R.put hd hv
  unfold St.own
  split
  · rename_i d
    refine R1.ownTmp (fun y hy => ?_)
    simp only [St.put, look_ins_same, Option.some.injEq] at hy
    subst hy
    rw [tmps_put_some, getD_set_same _ _ _ (hd d rfl)]
    exact ho rfl _
  · exact R1

theorem next_own (R : Rel C st a w own β) {yes : Bool} {x : V} {v : Value} (hd : ∀ t, o.dst = some t → t < a.tmps.size)
    (hv : RepV w own β v x) (ho : yes = true → ∀ p, OwnsAt w own p v x) (hn : Next C st w own β a.tmps.size ((st.put o.dst x).own o.dst yes) next) : next (a.put o.dst v) w :=
  hn _ _ _ _ (own_sound R hv hd ho) (Ext.refl w own) (fun _ _ _ h => h) (size_put a _ _)

theorem bytes_fold : ∀ (ns : List Int) (s : ByteArray), (∀ n ∈ ns, 0 ≤ n ∧ n ≤ 255) → bytesI (ns.foldl (fun r n => r.push (UInt8.ofNat n.toNat)) s) = bytesI s ++ ns
  | [], s, _ => by simp
  | n :: ns, s, h => by
    obtain ⟨h0, h1⟩ := h n (by simp)
    rw [List.foldl_cons, bytes_fold ns _ (fun m hm => h m (by simp [hm]))]
    have : (UInt8.ofNat n.toNat).toNat = n.toNat := by
      rw [UInt8.toNat_ofNat']; exact Nat.mod_eq_of_lt (by omega)
    simp [bytesI, ByteArray.data_push, this]
    omega

/-- The cells of a list of numbers. -/
theorem loadCells_nums {k : IntKind} {b off len : Nat} {xs : List Int} (hl : xs.length = len) (h : ∀ (i : Nat) (x : Int), xs[i]? = some x → w.cell? ⟨b, off + i, none⟩ = some (.int k x)) :
    (loadCells ⟨b, off, none⟩ len).run P w = .ok (xs.map (Value.int k)).toArray w := by
  have := run_loadCells_list (P := P) w ⟨b, off, none⟩ (xs.map (Value.int k)) (fun j v hv => by
    simp only [List.getElem?_map, Option.map_eq_some_iff] at hv
    obtain ⟨x, h1, rfl⟩ := hv
    rw [Addr.add_lit]; exact h j x h1)
  rw [List.length_map, hl] at this
  exact this

theorem u8_range {n : Int} (h : IntKind.u8.wrap n = n) : 0 ≤ n ∧ n ≤ 255 := by
  rw [wrap_iff] at h
  simpa [IntKind.min, IntKind.max, IntKind.signed, IntKind.bits] using h

theorem toString_nums (T : TOk P C.tt) {s d e : Nat} {i j je : TI} (hi : C.tt s = some i) (hj : C.tt d = some j) (hk : i.k = .slice e) (hjk : j.k = .str) (he : C.tt e = some je) (hje : je.k = .int .u8)
    {b off len cap : Nat} {xs : List Int} (hl : xs.length = len) (hm : len ≤ maxLen) (h : ∀ (i : Nat) (x : Int), xs[i]? = some x → w.cell? ⟨b, off + i, none⟩ = some (.int .u8 x))
    (hw : ∀ (i : Nat) (x : Int), xs[i]? = some x → IntKind.u8.wrap x = x) :
    ∃ v, (convert s d (.slice (some ⟨b, off, none⟩) len cap)).run P w = .ok v w ∧ RepD w own v (.str xs) := by
  obtain ⟨_, _, _, r1⟩ := T.get hi
  obtain ⟨_, _, _, r2⟩ := T.get hj
  obtain ⟨_, _, _, r3⟩ := T.get he
  have h1 := r1.slice hk; subst h1
  have h2 := r2.str hjk; subst h2
  have h3 := r3.int hje; subst h3
  rw [run_convert_bytes_string w s d e _ _ _ r1.und r3.und r2.und, run_bytesToString w _ _ _ xs (loadCells_nums hl h)]
  refine ⟨_, rfl, .str _ _ ?_ (by omega)⟩
  rw [bytes_fold _ _ (fun n hn => ?_)]
  · simp [bytesI]
  · obtain ⟨k, hk, rfl⟩ := List.mem_iff_getElem.1 hn
    exact u8_range (hw k _ (by simp [hk]))

theorem run_strBytes {s d e : Nat} {i : TypeDesc} (h1 : P.underlying s = some i) (h2 : P.underlying d = some (.slice e)) (h3 : P.underlying e = some (.int .u8)) (t : ByteArray) :
    ∃ (w1 : World) (arr : Array Value) (fz : Nat × Nat), w1.os = w.os ∧ w1.tape = w.tape ∧ w1.output = w.output ∧ w1.heap = w.heap.push (.cells arr e fz) ∧
      arr = (t.data.map fun b => Value.int .u8 b.toNat) ++ Array.replicate (grownCap w t.size 0 e - t.size) (.int .u8 0) ∧
      (convert s d (.string t)).run P w = .ok (.slice (some ⟨w.heap.size, 0, none⟩) t.size (grownCap w t.size 0 e)) w1 := by
  let A : Array Value := (t.data.map fun b => Value.int .u8 b.toNat) ++ Array.replicate (grownCap w t.size 0 e - t.size) (.int .u8 0)
  have hnew : (w.drew.alloc (.cells A e)).heap[w.heap.size]? = some (.cells A e) := heap_alloc_new w.drew _
  refine ⟨(w.drew.alloc (.cells A e)).freeze { block := w.heap.size, off := A.size } 1, A, (A.size, A.size + 1), ?_, ?_, ?_, ?_, rfl, ?_⟩
  · rfl
  · rfl
  · rfl
  · simp only [World.freeze, Nat.one_ne_zero, if_false]
    apply Array.ext_getElem?
    intro k
    rw [Array.getElem?_modify, Array.getElem?_push]
    by_cases hk : w.heap.size = k
    · subst hk
      rw [hnew]
      simp
    · have hk' : ¬ k = w.heap.size := fun e => hk e.symm
      simp only [hk, if_false, hk']
      show (w.heap.push _)[k]? = _
      rw [Array.getElem?_push, if_neg hk']
  · have hA : A = (t.data.map fun b => Value.int .u8 b.toNat) ++ Array.replicate ((Question.appendCap t.size 0 e).cut (w.tape w.drawn (.appendCap t.size 0 e)) - t.size) (.int .u8 0) := rfl
    have hsh : (w.drew.alloc (.cells A e)).shape? w.heap.size = some (e, A.size) := by simp only [World.shape?, hnew]
    simp [convert, run_underlying h1, run_underlying h2, run_underlying h3, Conv.stringToBytes, Question.forced, newRow, markStringish, grownCap, ← hA, hsh]

theorem convert_sound (T : TOk P C.tt) (R : Rel C st a w own β) {s d : Nat} {x : Operand} (hop : o.op = .convert s d x) (hd : ∀ t, o.dst = some t → t < a.tmps.size) {slot : Option Nat}
    (h : evOp C slot o st = some st') (hn : Next C st w own β a.tmps.size st' next) : o.wp P a w next Q := by
  simp only [evOp, hop] at h
  split at h
  · rename_i p hp
    have hpr := evO_sound R hp
    split at h
    · rename_i v ow hv
      cases h
      have fin : ∀ {u : Value}, ow = false → (convert s d (a.eval x)).run P w = .ok u w → RepV w own β u v → o.wp P a w next Q := by
        intro u how hrun hrep
        subst how
        have hr : (execOp a.eval o).run P w = .ok (.value u) w := by simp [execOp, hop, hrun]
        exact wp_value hr (next_own R hd hrep (fun h => by cases h) hn)
      unfold evConv at hv
      split at hv
      · rename_i i j hi hj
        obtain ⟨_, _, _, r1⟩ := T.get hi
        obtain ⟨_, _, _, r2⟩ := T.get hj
        split at hv
        · rename_i k k' n hk
          cases hv
          obtain ⟨he, _⟩ := inv_int hpr
          have h2 := r2.int hk; subst h2
          refine fin rfl ?_ (.d _ _ (.int k _ (wrap_wrap k n)))
          simp [convert, r1.run_und, r2.run_und, he, Conv.intToInt]
        · rename_i l hk
          cases hv
          obtain ⟨s', he, h1, h3⟩ := inv_str hpr
          have h2 := r2.str hk; subst h2
          refine fin rfl ?_ hpr
          simp [convert, r1.run_und, r2.run_und, he]
        · rename_i nl xs hk
          split at hv
          · rename_i e hki
            split at hv
            · rename_i hte
              cases hv
              have hpd := inv_d hpr
              generalize hg : a.eval x = u at hpd
              cases hpd with
              | numsNil =>
                have h1 := r1.slice hki; subst h1
                have h2 := r2.str hk; subst h2
                obtain ⟨_, _, _, r3⟩ := T.get hte
                have h3 := r3.int rfl; subst h3
                refine fin (u := .string .empty) rfl ?_ (.d _ _ (.str _ _ rfl (by simp)))
                rw [hg]
                simp [convert, r1.run_und, r2.run_und, r3.run_und, Conv.bytesToString]
              | nums _ b off len cap _ hl hc hm hh hw =>
                obtain ⟨v, h1, h2⟩ := toString_nums (own := own) (cap := cap) T hi hj hki hk hte rfl hl (by omega) (fun i x hx => (hh i x hx).cell) hw
                exact fin rfl (by rw [hg]; exact h1) (.d _ _ h2)
            · cases hv
          · cases hv
        · rename_i b off len cap sz hk
          split at hv
          · rename_i e hki
            split at hv
            · rename_i xs hte hB
              cases hsz : Nat.beq sz 1 with
              | false => rw [hsz] at hv; cases hv
              | true =>
                rw [hsz] at hv; cases hv
                have := Nat.eq_of_beq_eq_true hsz
                subst this
                generalize hg : a.eval x = u at hpr
                cases hpr with | mu _ _ _ _ _ pb ad hb hsp hc hm ha hbb =>
                obtain ⟨b', h1, h2⟩ := R.blocks _ _ hB
                rw [hb] at h1; cases h1
                cases h2 with | ints _ _ _ arr e' hh hs hr ho =>
                have had : ad = ⟨ad.block, ad.off, none⟩ := by cases ad; simp at hsp; simp [hsp]
                rw [had] at hg
                have hget : ∀ (i : Nat) (x : Int), ((xs.drop off).take len)[i]? = some x → xs[off + i]? = some x ∧ i < len := by
                  intro i x hx
                  rw [List.getElem?_take] at hx
                  split at hx
                  · rename_i hi; rw [List.getElem?_drop] at hx; exact ⟨hx, hi⟩
                  · cases hx
                by_cases h0 : cap = 0
                · have : len = 0 := by omega
                  subst this
                  obtain ⟨v, h1, h2⟩ := toString_nums (own := own) (w := w) (xs := []) (cap := cap) (b := ad.block) (off := ad.off) T hi hj hki hk hte rfl rfl (by simp) (fun i x hx => by simp at hx) (fun i x hx => by simp at hx)
                  exact fin rfl (by rw [hg]; exact h1) (.d _ _ (by simpa using h2))
                · obtain ⟨arr', e'', h3, h4⟩ := hbb h0
                  rw [hh] at h3; cases h3
                  have ha' := ha h0
                  obtain ⟨v, h1, h2⟩ := toString_nums (own := own) (w := w) (xs := (xs.drop off).take len) (len := len) (cap := cap) (b := pb) (off := off) T hi hj hki hk hte rfl (by simp; omega) (by omega)
                    (fun i x hx => by
                      obtain ⟨h5, h6⟩ := hget i x hx
                      have := cell_of_block hh (show off + i < arr.size by omega)
                      rw [(hr _ x h5).1] at this; exact this) (fun i x hx => (hr _ x (hget i x hx).1).2)
                  rw [← had, ha'] at hg
                  exact fin rfl (by rw [hg]; exact h1) (.d _ _ h2)
            · cases hv
          · cases hv
        · rename_i e l hk
          split at hv
          · rename_i hte
            cases hv
            obtain ⟨s', he, h1, h3⟩ := inv_str hpr
            have h2 := r2.slice hk; subst h2
            obtain ⟨_, _, _, r3⟩ := T.get hte
            have h4 := r3.int rfl; subst h4
            let cap := (Question.appendCap s'.size 0 e).cut (w.tape w.drawn (.appendCap s'.size 0 e))
            have hcap : s'.size ≤ cap := by simp [cap, Question.cut]
            have hcm : cap ≤ maxLen := by
              have e1 : (bytesI s').length = s'.size := by simp [bytesI]
              have : s'.size ≤ maxLen := by rw [← e1, h1]; exact h3
              exact grownCap_le_maxLen w s'.size 0 e this
            obtain ⟨w1, arr, fz, hos, hta, hou, hhe, harr, hrun⟩ := run_strBytes (P := P) (w := w) r1.und r2.und r3.und s'
            rw [← he] at hrun
            have e1 : (bytesI s').length = s'.size := by simp [bytesI]
            have hsm : s'.size ≤ maxLen := by rw [← e1, h1]; exact h3
            obtain ⟨R1, E1⟩ := R.allocFree hos hta hou hhe
            have hr : (execOp a.eval o).run P w = .ok (.value (.slice (some ⟨w.heap.size, 0, none⟩) s'.size (grownCap w s'.size 0 e))) w1 := by simp [execOp, hop, hrun]
            have hnew : w1.heap[w.heap.size]? = some (.cells arr e fz) := by rw [hhe]; simp
            refine wp_value hr (next_own R1 hd (.d _ _ ?_) (fun h => by cases h) (Next.of E1 (Nat.le_refl _) (fun _ _ _ h => h) hn))
            refine .nums .u8 _ 0 _ _ l (by rw [← h1, e1]) (grownCap_ge w s'.size 0 e) (grownCap_le_maxLen w s'.size 0 e hsm) (fun k c hc => ?_) (fun k c hc => ?_)
            · rw [← h1] at hc
              simp only [bytesI, List.getElem?_map, Option.map_eq_some_iff] at hc
              obtain ⟨b, hb1, rfl⟩ := hc
              rw [Array.getElem?_toList] at hb1
              have hlt : k < s'.data.size := (Array.getElem?_eq_some_iff.1 hb1).1
              refine ⟨?_, fun ow n h => (by rw [own_fresh R] at h; cases h), rfl⟩
              simp only [World.cell?, hnew, Nat.zero_add]
              rw [harr, Array.getElem?_append_left (by simpa using hlt), Array.getElem?_map, hb1]
              rfl
            · rw [← h1] at hc
              simp only [bytesI, List.getElem?_map, Option.map_eq_some_iff] at hc
              obtain ⟨b, hb1, rfl⟩ := hc
              have := b.toNat_lt
              rw [wrap_iff]; simp [IntKind.min, IntKind.max, IntKind.signed, IntKind.bits]; omega
          · cases hv
        · cases hv
      · cases hv
    · cases h
  · cases h

end Go.VM
