/- The machine over values: from a reckoning to the call. -/
import Derived.Test.YtmehkdomnhgmeaaVMO
import Derived.Below
import Derived.SizedLaws
import Derived.OpenShut
set_option linter.unusedSimpArgs false
set_option linter.unusedVariables false
namespace Go.VM
open Go Go.RowKit

variable {P : Program} {E : Env}

/-- Nothing is anyone's. -/
def noOwn : Own := fun _ => none

theorem below_of_ext {w w' : World} {own' : Own} (h : Ext w noOwn w' own') : Below w.heap.size w w' :=
  ⟨h.os, h.tape, h.output, h.size, fun k hk => (h.free k hk rfl).1⟩

theorem call_of (O : EnvOk P E) (hg : ∀ g, E.glob g = none) {fuel n : Nat} {f : FuncId} {args : List V} {b : Bool} {w : World} {cargs : Array Value}
    (h : callN E fuel n f args = some ⟨[.d (.bool b)], []⟩) (G : Given w noOwn cargs args) :
    Calls P f cargs w fun e w' => e = .returned (.bool b) ∧ Below w.heap.size w w' := by
  obtain ⟨_, hS⟩ := callN_sound O h
  refine Calls.mono (hS cargs w noOwn G (fun g cs h => by rw [hg g] at h; cases h) (fun b s h => by cases h) (fun b ow n h => by cases h)) ?_
  rintro e w' ⟨v, own', rfl, B⟩
  obtain ⟨vs, ⟨hs, hr⟩, hv, _⟩ := B.vals
  have h1 : vs.size = 1 := by simpa using hs
  rw [if_pos h1] at hv
  have := inv_bool (hr 0 (.d (.bool b)) rfl)
  exact ⟨by rw [hv, this], below_of_ext B.ext⟩

theorem wrap_of_wf {k : IntKind} {n : Int} (h : (Lit.int k n).wf = true) : k.wrap n = n := by
  simp only [Lit.wf, Bool.and_eq_true, decide_eq_true_eq] at h
  exact (wrap_iff k n).2 h

theorem byte_of_wf {n : Int} (h : (Lit.int .u8 n).wf = true) : 0 ≤ n ∧ n < 256 := by
  simp only [Lit.wf, Bool.and_eq_true, decide_eq_true_eq, IntKind.min, IntKind.max, IntKind.signed, IntKind.bits] at h
  simp at h
  omega

/-- A row of integers that came in. -/
theorem rep_row {w : World} {k : IntKind} {b o len cap : Nat} {zs : List Int} (hl : len ≤ cap) (hm : cap ≤ maxLen) (hz : len ≤ zs.length)
    (hc : ∀ i, i < zs.length → w.cell? (Addr.add ⟨b, o, none⟩ i) = some (.int k (zs.getD i 0))) (hw : ∀ n ∈ zs, (Lit.int k n).wf = true) :
    RepD w noOwn (.slice (some ⟨b, o, none⟩) len cap) (.nums k false (zs.take len)) := by
  refine .nums k b o len cap _ (by simp; omega) hl hm (fun i x hx => ⟨?_, fun ow n h => (by cases h), rfl⟩) (fun i x hx => wrap_of_wf (hw x (List.mem_of_mem_take (List.mem_of_getElem? hx))))
  rw [List.getElem?_take] at hx
  split at hx
  · have hlt := (List.getElem?_eq_some_iff.1 hx).1
    have := hc i hlt
    rw [Addr.add_lit] at this
    rw [this]
    simp [List.getD, hx]
  · cases hx

theorem rep_nil (w : World) (k : IntKind) : RepD w noOwn (.slice none 0 0) (.nums k true []) := .numsNil k

end Go.VM

set_option linter.unusedSimpArgs false
set_option linter.unusedVariables false
namespace Go.VM
open Go Go.RowKit

theorem rep_str {w : World} {own : Own} {s : ByteArray} (h : s.size ≤ maxLen) : RepD w own (.string s) (.str (bytesI s)) :=
  .str s _ rfl (by unfold bytesI; simpa using h)

theorem bytesI_bound (s : ByteArray) : ∀ x ∈ bytesI s, 0 ≤ x ∧ x < 256 := by
  intro x hx
  unfold bytesI at hx
  rw [List.mem_map] at hx
  obtain ⟨b, _, rfl⟩ := hx
  have : b.toNat < 256 := by
    have := b.toFin.isLt
    simpa using this
  omega

/-- A pair's cells. -/
def pairCells (p : Int × List Int) : List D := [.int .i64 p.1, .str p.2]

theorem cells_two {w : World} {base : Nat} {b o : Nat} {cs : List Value} (h : w.cells? base ⟨b, o, none⟩ 2 = some cs) : ∃ u v, cs = [u, v] ∧ w.cell? ⟨b, o, none⟩ = some u ∧ w.cell? ⟨b, o + 1, none⟩ = some v := by
  obtain ⟨_, hl, hc⟩ := World.cells?_some h
  match cs, hl with
  | [u, v], _ =>
    have h0 := hc 0 (by omega)
    have h1 := hc 1 (by omega)
    rw [Addr.add_lit] at h0 h1
    exact ⟨u, v, rfl, by simpa using h0, by simpa using h1⟩

variable {H : Type} {enc : TypeId × Value → H} {P : Program} {w : World} {base : Nat} {spare : Nat → Bool} {held : Bool}

theorem open_pair {e i s : TypeId} {f0 f1 : Field} {m : Nat} {cs : List Value} {x : DataW H × List MemPlace} (he : P.underlying e = some (.struct #[f0, f1])) (h0 : f0.offset = 0) (h1 : f1.offset = 1)
    (hi : P.underlying f0.type = some (.int .i64)) (hs : P.underlying f1.type = some .string) (ci : P.cellsOf f0.type = 1) (cstr : P.cellsOf f1.type = 1) (ce : P.cellsOf e = 2)
    (h : DataW.trod enc P w base spare held m e cs = some x) :
    ∃ (n : Int) (t : ByteArray), cs = [.int .i64 n, .string t] ∧ (Lit.int .i64 n).wf = true ∧ t.size ≤ maxLen := by
  obtain ⟨xs, m', rfl, rfl, hl, hxs, hf⟩ := DataW.trod_struct he h
  rw [ce] at hl
  have hxs2 : xs.length = 2 := by simpa using hxs
  match cs, hl, xs, hxs2 with
  | [u, v], _, [y0, y1], _ =>
    have a0 := hf 0 f0 (by simp)
    have a1 := hf 1 f1 (by simp)
    rw [h0, ci] at a0
    rw [h1, cstr] at a1
    simp at a0 a1
    obtain ⟨n, hn, _, hwf⟩ := DataW.trod_int hi a0
    obtain ⟨t, ht, _, hsz⟩ := DataW.trod_string hs a1
    simp at hn ht
    subst hn ht
    exact ⟨n, t, rfl, hwf, hsz⟩

theorem map_range_at {α : Type} {g : Nat → α} {len i : Nat} {c : α} (h : ((List.range len).map g)[i]? = some c) : i < len ∧ c = g i := by
  rw [List.getElem?_map] at h
  rcases Nat.lt_or_ge i len with hi | hi
  · rw [List.getElem?_range hi] at h
    simp at h
    exact ⟨hi, h.symm⟩
  · rw [List.getElem?_eq_none (by simpa using hi)] at h
    cases h

theorem wf_i64 {n : Int} (h : (Lit.int .i64 n).wf = true) : -9223372036854775808 ≤ n ∧ n ≤ 9223372036854775807 := by
  simp only [Lit.wf, Bool.and_eq_true, decide_eq_true_eq, IntKind.min, IntKind.max, IntKind.signed, IntKind.bits] at h
  simp at h
  omega

/-- A row of pairs. -/
theorem open_pairs {t e : TypeId} {f0 f1 : Field} {m : Nat} {a : Option Addr} {len cap : Nat} {x : DataW H × List MemPlace} (ht : P.underlying t = some (.slice e)) (he : P.underlying e = some (.struct #[f0, f1])) (h0 : f0.offset = 0) (h1 : f1.offset = 1)
    (hi : P.underlying f0.type = some (.int .i64)) (hs : P.underlying f1.type = some .string) (ci : P.cellsOf f0.type = 1) (cstr : P.cellsOf f1.type = 1) (ce : P.cellsOf e = 2)
    (hspot : ∀ z, a = some z → z.spot = none) (h : DataW.trod enc P w base spare held m t [.slice a len cap] = some x) :
    ∃ (nl : Bool) (l : List (Int × List Int)), RepD w noOwn (.slice a len cap) (.sl 2 nl (l.map pairCells)) ∧ (nl = true → l = []) ∧ (∀ p ∈ l, ∀ c ∈ p.2, 0 ≤ c ∧ c < 256) ∧ (∀ p ∈ l, p.2.length ≤ maxLen) ∧
      (∀ p ∈ l, -9223372036854775808 ≤ p.1 ∧ p.1 ≤ 9223372036854775807) ∧
      (l = [] ∨ ∃ el sp, x.1 = .slice el sp ∧ el.length = l.length) := by
  rcases DataW.trod_slice ht h with ⟨hc, _⟩ | ⟨z, len', cap', elems, rest, n, _, hc, hx, hb, hle, hm, hlen, hel, _, _⟩
  · simp at hc
    obtain ⟨rfl, rfl, rfl⟩ := hc
    exact ⟨true, [], .slNil 2, fun _ => rfl, by simp, by simp, by simp, .inl rfl⟩
  · simp at hc
    obtain ⟨rfl, rfl, rfl⟩ := hc
    have hz := hspot z rfl
    obtain ⟨b, o, sp⟩ := z
    simp only at hz
    subst hz
    have each : ∀ i, i < len → ∃ (n : Int) (s : ByteArray), w.cell? ⟨b, o + i * 2, none⟩ = some (.int .i64 n) ∧ w.cell? ⟨b, o + i * 2 + 1, none⟩ = some (.string s) ∧ (Lit.int .i64 n).wf = true ∧ s.size ≤ maxLen := by
      intro i hi'
      have hh := hel i hi'
      rw [ce] at hh
      obtain ⟨y, hy⟩ : ∃ y, elems[i]? = some y := ⟨_, List.getElem?_eq_getElem (by omega)⟩
      rw [hy, Option.bind_eq_some_iff] at hh
      obtain ⟨cs', hcs, ht'⟩ := hh
      rw [Addr.add_lit] at hcs
      obtain ⟨u, v, rfl, c0, c1⟩ := cells_two hcs
      obtain ⟨n, s, hns, hwf, hsz⟩ := open_pair (i := e) (s := e) he h0 h1 hi hs ci cstr ce ht'
      simp at hns
      obtain ⟨rfl, rfl⟩ := hns
      exact ⟨n, s, c0, c1, hwf, hsz⟩
    have pick : ∃ f : Nat → Int × ByteArray, ∀ i, i < len → w.cell? ⟨b, o + i * 2, none⟩ = some (.int .i64 (f i).1) ∧ w.cell? ⟨b, o + i * 2 + 1, none⟩ = some (.string (f i).2) ∧ (Lit.int .i64 (f i).1).wf = true ∧ (f i).2.size ≤ maxLen := by
      refine ⟨fun i => if hi' : i < len then (Classical.choose (each i hi'), Classical.choose (Classical.choose_spec (each i hi'))) else (0, ByteArray.empty), fun i hi' => ?_⟩
      simp only [hi', dite_true]
      exact Classical.choose_spec (Classical.choose_spec (each i hi'))
    obtain ⟨f, hf⟩ := pick
    refine ⟨false, (List.range len).map fun i => ((f i).1, bytesI (f i).2), ?_, fun h => (by cases h), ?_, ?_, ?_, ?_⟩
    · refine .sl 2 b o len cap _ (fun i r => if r = 0 then .int .i64 (f i).1 else .string (f i).2) (by simp) hle hm ?_ ?_ ?_
      · intro i c hc
        rw [List.map_map] at hc
        obtain ⟨_, rfl⟩ := map_range_at hc
        simp [pairCells]
      · intro i r c d hc hd
        rw [List.map_map] at hc
        obtain ⟨hil, rfl⟩ := map_range_at hc
        obtain ⟨g0, g1, g2, g3⟩ := hf i hil
        rcases r with _ | _ | r
        · exact ⟨by simpa using g0, fun ow n h => (by cases h), rfl⟩
        · exact ⟨by simpa using g1, fun ow n h => (by cases h), rfl⟩
        · simp [pairCells] at hd
      · intro i r c d hc hd
        rw [List.map_map] at hc
        obtain ⟨hil, rfl⟩ := map_range_at hc
        obtain ⟨g0, g1, g2, g3⟩ := hf i hil
        rcases r with _ | _ | r
        · simp [pairCells] at hd
          subst hd
          exact .int .i64 _ (wrap_of_wf g2)
        · simp [pairCells] at hd
          subst hd
          exact rep_str g3
        · simp [pairCells] at hd
    · intro p hp
      rw [List.mem_map] at hp
      obtain ⟨i, hi', rfl⟩ := hp
      exact bytesI_bound _
    · intro p hp
      rw [List.mem_map] at hp
      obtain ⟨i, hi', rfl⟩ := hp
      obtain ⟨g0, g1, g2, g3⟩ := hf i (by simpa using hi')
      unfold bytesI
      simpa using g3
    · intro p hp
      rw [List.mem_map] at hp
      obtain ⟨i, hi', rfl⟩ := hp
      obtain ⟨g0, g1, g2, g3⟩ := hf i (by simpa using hi')
      exact wf_i64 g2
    · right
      rw [hx]
      exact ⟨_, _, rfl, by simp [hlen]⟩
end Go.VM
