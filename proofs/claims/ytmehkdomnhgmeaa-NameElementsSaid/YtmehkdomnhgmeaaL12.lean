/- For every name NameElements returns true, and the input reads as it did: no condition. -/
import Derived.Test.YtmehkdomnhgmeaaT12
import Derived.Test.YtmehkdomnhgmeaaVMP
import Derived.Test.YtmehkdomnhgmeaaRows
import Derived.WalkKit
import Derived.ProofKit
import Derived.OpenShut
import Derived.ShutString
import Derived.ChangeOld
import Derived.Below
import Derived.SizedLaws
namespace Go.Proofs.Ytmehkdomnhgmeaa.nameElements
open Go.ChangeShapes Go.WideShapes Go.ChangeAt Go.RowKit Go.VM
open Go.ChangeMaps (open_string shut_string)
set_option linter.unusedVariables false

theorem own : ownKnob Try.prog.godebug = none := by kernel_rfl
theorem laidOut : laidOutB Try.prog = true := by kernel_rfl

/-- A name that came in. -/
theorem name_in {H : Type} {enc : TypeId × Value → H} {W : World} {base : Nat} {a : Option Addr} {len cap : Nat} {d : DataW H} {p : List MemPlace} (ok : Value.okWide Try.prog W .any base 54 (.slice a len cap))
    (h : DataW.Trod enc Try.prog W 0 (fun _ => true) true 54 (.slice a len cap) d p) (hsz : ∀ el sp, d = .slice el sp → (el.length + sp.length) * 24 ≤ reachBytes) :
    ∃ nl l, RepD W noOwn (.slice a len cap) (.sl 2 nl (rows l)) ∧ l.length ≤ 140737488355328 ∧ (∀ p ∈ l, p.2.length ≤ maxLen) := by
  obtain ⟨fuel, hf⟩ := h
  have hspot : ∀ z, a = some z → z.spot = none := by
    intro z hz
    subst hz
    simp only [Value.okWide, Try.underlying54, Cell.okWide, Cell.ok, World.has] at ok
    exact ok.2.2.2.1
  obtain ⟨nl, l, R, _, _, hml, _, hl⟩ := open_pairs Try.underlying54 Try.underlying57 rfl rfl Try.underlying3 Try.underlying9 (by kernel_rfl) (by kernel_rfl) (by kernel_rfl) hspot hf
  refine ⟨nl, l, R, ?_, hml⟩
  rcases hl with rfl | ⟨el, sp, h1, h2⟩
  · simp
  · have := hsz el sp h1
    unfold reachBytes at this
    omega

set_option maxRecDepth 100000 in
theorem lifted (os : Os) (started : os.Started) (H : Type) (enc : TypeId × Value → H) :
    ReturnsInHanded {} Try.checked os 12 .any (Rows.nameElementsSpec.pre6 enc Try.prog Try.f12 Rows.nameElementsRow.domain false) (Rows.nameElementsSpec.post enc Try.prog Try.f12 false true false false) := by
  refine returnsInHanded_of_change_sized (C := Try.checked) own started (by kernel_rfl) Try.func12
    (ChangeSpec.witness6 (enc := enc) (C := Try.checked) false ⟨#[], #[.slice none 0 0], []⟩ 8 (by kernel_rfl) (by kernel_rfl) (by kernel_rfl) (by kernel_rfl)) ?_
  intro W base args ds gs before hval0 hW hcnd hsz0 _
  have hval : ∀ (j : Nat) t v, Try.f12.params[j]? = some t → args[j]? = some v → Value.okWide Try.prog W .any base t v := hval0
  have hsz : (DataW.weightsEach Try.prog (Try.f12.params.toList ++ Rows.nameElementsSpec.plain.varTypes Try.prog) (ds ++ gs)).all (· ≤ reachBytes) = true := hsz0
  have hW' := hW
  obtain ⟨p, q, hA0, hV, rfl, hfz, hnd⟩ := hW
  have hA : DataW.TrodAll enc Try.prog W 0 (fun _ => true) true Try.f12.params.toList args.toList ds p := hA0
  rw [Try.params12] at hA hval hsz
  obtain ⟨v0, vs0, d0, ds0, p0, q0, hargs, rfl, rfl, h0, r0⟩ := trodAll_cons hA
  obtain ⟨rfl, rfl, rfl⟩ := trodAll_nil r0
  obtain rfl : args = #[v0] := by cases args; simp_all
  obtain ⟨rfl, rfl⟩ := trodVars_none hV
  have ok0 := hval 0 54 v0 rfl rfl
  obtain ⟨a0, len0, cap0, rfl⟩ := okWide_slice Try.underlying54 ok0
  have k0 := h0
  have lt0 : ∀ x ∈ p0, x.block < W.heap.size := by obtain ⟨m, hm⟩ := k0; exact DataW.trod_lt m _ _ _ hm
  have R0 := name_in ok0 h0 (fun el sp e => by
    have hb := sized_slice hsz (j := 0) (t := 54) (e := 57) rfl (by rw [e]; rfl) Try.underlying54
    rw [show Try.prog.bytesOf 57 = 24 by kernel_rfl] at hb
    exact hb)
  clear hA0 hval0
  obtain ⟨nl0, xs0, R0, hx0, hml⟩ := R0
  have G : Given W noOwn #[.slice a0 len0 cap0] [.d (.sl 2 nl0 (rows xs0))] := by
    refine ⟨rfl, fun j x hx => ?_⟩
    rcases j with _ | j
    · simp at hx; subst hx; exact .d _ _ R0
    · simp at hx
  refine (call_of envOk (fun g => rfl) (t12 3000 0 nl0 xs0 hx0 hml (by omega) (by omega)) G).mono fun e W' ⟨he, bel⟩ => ?_
  subst he
  exact ⟨_, rfl, _, _, _, [], _, [], hW', trodAll_mk1 (shut_bool Try.underlying4 _),
    (trodAll_cons_mk (Below.trod laidOut (by kernel_rfl) (of_decide_eq_true (by kernel_rfl)) k0 bel lt0) trodAll_mk0), rfl, bel.frame _, fun h => by cases h⟩

theorem over : Rows.nameElementsRow.holds Try.pinned (OpenSpec.ofChange Rows.nameElementsSpec) :=
  OpenClaim.holds_of_wide 12 Try.f12 rfl rfl rfl rfl rfl rfl rfl ⟨rfl, rfl, rfl, rfl, rfl⟩ rfl rfl rfl rfl rfl (by kernel_rfl) Try.func12 (by kernel_rfl)
    (of_decide_eq_true (by kernel_rfl)) (by unfold Func.isWrapper; first | (rw [if_pos (by decide +kernel)]; kernel_rfl) | (rw [if_neg (by decide +kernel)]; exact ⟨rfl, rfl⟩))
    (fun os started H enc _ => lifted os started H enc)

theorem proved : Rows.NameElementsSaid := over
#print axioms proved
end Go.Proofs.Ytmehkdomnhgmeaa.nameElements
