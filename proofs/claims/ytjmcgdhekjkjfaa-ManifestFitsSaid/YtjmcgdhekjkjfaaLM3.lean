/- For every manifest and every size of the memory ManifestFits returns true, and the inputs read as they did: no condition. -/
import Derived.Test.YtjmcgdhekjkjfaaM3
import Derived.Test.YtjmcgdhekjkjfaaVM43
import Derived.Test.YtjmcgdhekjkjfaaRows
import Derived.WalkKit
import Derived.ProofKit
import Derived.OpenShut
import Derived.ShutString
import Derived.ChangeOld
import Derived.Below
namespace Go.Proofs.Ytjmcgdhekjkjfaa.manifestFits
open Go.ChangeShapes Go.WideShapes Go.ChangeAt Go.RowKit Go.VM
set_option linter.unusedVariables false

theorem own : ownKnob Try.prog.godebug = none := by kernel_rfl
theorem laidOut : laidOutB Try.prog = true := by kernel_rfl

theorem one_int {n : Int} : (Value.int .i64 n).oneCell' = true := rfl

theorem man_in {H : Type} {enc : TypeId × Value → H} {W : World} {v : Value} {arr : Array Value} {d : DataW H} {p : List MemPlace} (hv : v = .agg arr)
    (h : DataW.Trod enc Try.prog W 0 (fun _ => true) true 24 v d p) :
    ∃ (a b c e : Int), RepV W noOwn (fun _ => none) v (man a b c e) ∧ (-9223372036854775808 ≤ c ∧ c ≤ 9223372036854775807) := by
  subst hv
  obtain ⟨fuel, hf⟩ := h
  obtain ⟨xs, m, rfl, _, hl, hxs, hg⟩ := DataW.trod_struct Try.underlying24 hf
  rw [show Try.prog.cellsOf 24 = 7 by kernel_rfl] at hl
  have hxs7 : xs.length = 7 := by simpa using hxs
  have hl7 : arr.toList.length = 7 := hl
  obtain ⟨l⟩ := arr
  simp only at hl7
  match l, hl7, xs, hxs7 with
  | [v0, v1, v2, v3, v4, v5, v6], _, [y0, y1, y2, y3, y4, y5, y6], _ =>
    have c3 : Try.prog.cellsOf 3 = 1 := by kernel_rfl
    have c22 : Try.prog.cellsOf 22 = 1 := by kernel_rfl
    have g0 := hg 0 _ rfl
    have g1 := hg 1 _ rfl
    have g2 := hg 2 _ rfl
    have g3 := hg 3 _ rfl
    have g4 := hg 4 _ rfl
    have g5 := hg 5 _ rfl
    have g6 := hg 6 _ rfl
    simp [Value.cells, c3, c22] at g0 g1 g2 g3 g4 g5 g6
    obtain ⟨a, q0, _, w0⟩ := DataW.trod_int Try.underlying3 g0
    obtain ⟨b, q1, _, w1⟩ := DataW.trod_int Try.underlying3 g1
    obtain ⟨c, q2, _, w2⟩ := DataW.trod_int Try.underlying3 g2
    obtain ⟨e, q3, _, w3⟩ := DataW.trod_int Try.underlying3 g3
    simp at q0 q1 q2 q3
    subst q0 q1 q2 q3
    have sl : ∀ {y : DataW H × List MemPlace} {u : Value}, DataW.trod enc Try.prog W 0 (fun _ => true) true m 22 [u] = some y → u.oneCell' = true := by
      intro y u h
      rcases DataW.trod_slice Try.underlying22 h with ⟨hc, _⟩ | ⟨z, len, cap, elems, rest, n, _, hc, _⟩
      · simp at hc; subst hc; rfl
      · simp at hc; subst hc; rfl
    have s4 := sl g4
    have s5 := sl g5
    have s6 := sl g6
    refine ⟨a, b, c, e, .agg _ _ rfl ?_ ?_, wf_i64 w2⟩
    · intro j hj
      simp at hj
      rcases j with _ | _ | _ | _ | _ | _ | _ | j
      · rfl
      · rfl
      · rfl
      · rfl
      · exact s4
      · exact s5
      · exact s6
      · omega
    · intro j x hx
      rcases j with _ | _ | _ | _ | _ | _ | _ | j
      · simp at hx; subst hx; exact .d _ _ (.int _ _ (wrap_of_wf w0))
      · simp at hx; subst hx; exact .d _ _ (.int _ _ (wrap_of_wf w1))
      · simp at hx; subst hx; exact .d _ _ (.int _ _ (wrap_of_wf w2))
      · simp at hx; subst hx; exact .d _ _ (.int _ _ (wrap_of_wf w3))
      · simp at hx; subst hx; exact .any _
      · simp at hx; subst hx; exact .any _
      · simp at hx; subst hx; exact .any _
      · simp at hx

set_option maxRecDepth 100000 in
theorem lifted (os : Os) (started : os.Started) (H : Type) (enc : TypeId × Value → H) :
    ReturnsInHanded {} Try.checked os 3 .any (Rows.manifestFitsSpec.pre6 enc Try.prog Try.f3 Rows.manifestFitsRow.domain false) (Rows.manifestFitsSpec.post enc Try.prog Try.f3 false true false false) := by
  refine returnsInHanded_of_change (C := Try.checked) own started (by kernel_rfl) Try.func3
    (ChangeSpec.witness6 (enc := enc) (C := Try.checked) false ⟨#[], #[.agg #[.int .i64 0, .int .i64 0, .int .i64 0, .int .i64 0, .slice none 0 0, .slice none 0 0, .slice none 0 0], .int .i64 0], []⟩ 8 (by kernel_rfl) (by kernel_rfl) (by kernel_rfl) (by kernel_rfl)) ?_
  intro W base args ds gs before hval0 hW hcnd _
  have hval : ∀ (j : Nat) t v, Try.f3.params[j]? = some t → args[j]? = some v → Value.okWide Try.prog W .any base t v := hval0
  have hW' := hW
  obtain ⟨p, q, hA0, hV, rfl, hfz, hnd⟩ := hW
  have hA : DataW.TrodAll enc Try.prog W 0 (fun _ => true) true Try.f3.params.toList args.toList ds p := hA0
  rw [Try.params3] at hA hval
  obtain ⟨v0, vs0, d0, ds0, p0, q0, hargs, rfl, rfl, h0, r0⟩ := trodAll_cons hA
  obtain ⟨v1, vs1, d1, ds1, p1, q1, rfl, rfl, rfl, h1, r1⟩ := trodAll_cons r0
  obtain ⟨rfl, rfl, rfl⟩ := trodAll_nil r1
  obtain rfl : args = #[v0, v1] := by cases args; simp_all
  obtain ⟨rfl, rfl⟩ := trodVars_none hV
  have ok0 := hval 0 24 v0 rfl rfl
  obtain ⟨a1, rfl, rfl, rfl, w1⟩ := open_int Try.underlying3 (hval 1 3 v1 rfl rfl) h1
  have k0 := h0
  have lt0 : ∀ x ∈ p0, x.block < W.heap.size := by obtain ⟨m, hm⟩ := k0; exact DataW.trod_lt m _ _ _ hm
  simp only [Value.okWide, Try.underlying24] at ok0
  obtain ⟨arr, ok1, _, _⟩ := ok0
  obtain ⟨a, b, c, e, R0, hc⟩ := man_in ok1 h0
  clear hA0 hval0
  have G : Given W noOwn #[v0, .int .i64 a1] [man a b c e, .d (.int .i64 a1)] := by
    refine ⟨rfl, fun j x hx => ?_⟩
    rcases j with _ | _ | j
    · simp at hx; subst hx; exact R0
    · simp at hx; subst hx; exact .d _ _ (.int _ _ (wrap_of_wf w1))
    · simp at hx
  have hw := wf_i64 w1
  refine (call_of envOk (fun g => rfl) (m3 200 0 a b c e a1 hc.1 hc.2 hw.1 hw.2 (by omega)) G).mono fun e W' ⟨he, bel⟩ => ?_
  subst he
  exact ⟨_, rfl, _, _, _, [], _, [], hW', trodAll_mk1 (shut_bool Try.underlying4 _),
    (trodAll_cons_mk (Below.trod laidOut (by kernel_rfl) (of_decide_eq_true (by kernel_rfl)) k0 bel lt0) (trodAll_cons_mk (shut_int Try.underlying3 w1) trodAll_mk0)), rfl, bel.frame _, fun h => by cases h⟩

theorem over : Rows.manifestFitsRow.holds Try.pinned (OpenSpec.ofChange Rows.manifestFitsSpec) :=
  OpenClaim.holds_of_wide 3 Try.f3 rfl rfl rfl rfl rfl rfl rfl ⟨rfl, rfl, rfl, rfl, rfl⟩ rfl rfl rfl rfl rfl (by kernel_rfl) Try.func3 (by kernel_rfl)
    (of_decide_eq_true (by kernel_rfl)) (by unfold Func.isWrapper; first | (rw [if_pos (by decide +kernel)]; kernel_rfl) | (rw [if_neg (by decide +kernel)]; exact ⟨rfl, rfl⟩))
    (fun os started H enc _ => lifted os started H enc)

theorem proved : Rows.ManifestFitsSaid := over
#print axioms proved
end Go.Proofs.Ytjmcgdhekjkjfaa.manifestFits
