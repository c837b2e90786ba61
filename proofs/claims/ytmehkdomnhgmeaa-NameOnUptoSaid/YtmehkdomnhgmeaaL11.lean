/- For every three names of bulk at most 1048576 NameOn returns true, and the inputs read as they did. -/
import Derived.Test.YtmehkdomnhgmeaaT11
import Derived.Test.YtmehkdomnhgmeaaN1
import Derived.Test.YtmehkdomnhgmeaaRows
import Derived.WalkKit
import Derived.ProofKit
import Derived.OpenShut
import Derived.JoinedCond
import Derived.Below
namespace Go.Proofs.Ytmehkdomnhgmeaa.nameOn
open Go.ChangeShapes Go.WideShapes Go.ChangeAt Go.RowKit Go.VM
set_option linter.unusedVariables false

theorem own : ownKnob Try.prog.godebug = none := by kernel_rfl

theorem contract (H : Type) (enc : TypeId × Value → H) (W : World) (base : Nat) (args : Array Value) (ds gs : List (DataW H)) (before : List MemPlace)
    (hval : ∀ (j : Nat) t v, Try.f11.params[j]? = some t → args[j]? = some v → Value.okWide Try.prog W .any base t v)
    (hW : DataW.Whole enc Try.prog Try.f11.params.toList Rows.nameOnSpec.vars false W args.toList ds gs before) (hk : Rows.uptoSmall H (ds ++ gs) = true) :
    Calls Try.prog 11 args W fun e W' => ∃ v, e = .returned v ∧ Rows.nameOnSpec.post enc Try.prog Try.f11 false true false false W args v W' := by
  have hW' := hW
  obtain ⟨p, q, hA0, hV, rfl, hfz, hnd⟩ := hW
  have hA : DataW.TrodAll enc Try.prog W 0 (fun _ => true) true Try.f11.params.toList args.toList ds p := hA0
  rw [Try.params11] at hA hval
  obtain ⟨v0, vs0, d0, ds0, p0, q0, hargs, rfl, rfl, h0, r0⟩ := trodAll_cons hA
  obtain ⟨v1, vs1, d1, ds1, p1, q1, rfl, rfl, rfl, h1, r1⟩ := trodAll_cons r0
  obtain ⟨v2, vs2, d2, ds2, p2, q2, rfl, rfl, rfl, h2, r2⟩ := trodAll_cons r1
  obtain ⟨rfl, rfl, rfl⟩ := trodAll_nil r2
  obtain rfl : args = #[v0, v1, v2] := by cases args; simp_all
  obtain ⟨rfl, rfl⟩ := trodVars_none hV
  have ok0 := hval 0 54 v0 rfl rfl
  have ok1 := hval 1 54 v1 rfl rfl
  have ok2 := hval 2 54 v2 rfl rfl
  obtain ⟨a0, len0, cap0, rfl⟩ := okWide_slice Try.underlying54 ok0
  obtain ⟨a1, len1, cap1, rfl⟩ := okWide_slice Try.underlying54 ok1
  obtain ⟨a2, len2, cap2, rfl⟩ := okWide_slice Try.underlying54 ok2
  have k0 := h0
  have k1 := h1
  have k2 := h2
  have lt0 : ∀ x ∈ p0, x.block < W.heap.size := by obtain ⟨m, hm⟩ := k0; exact DataW.trod_lt m _ _ _ hm
  have lt1 : ∀ x ∈ p1, x.block < W.heap.size := by obtain ⟨m, hm⟩ := k1; exact DataW.trod_lt m _ _ _ hm
  have lt2 : ∀ x ∈ p2, x.block < W.heap.size := by obtain ⟨m, hm⟩ := k2; exact DataW.trod_lt m _ _ _ hm
  obtain ⟨nl0, xs0, R0, _, _, _, _, b0⟩ := name_in ok0 h0
  obtain ⟨nl1, xs1, R1, _, _, _, _, b1⟩ := name_in ok1 h1
  obtain ⟨nl2, xs2, R2, _, _, _, _, b2⟩ := name_in ok2 h2
  have hx0 := name_len hk (by simp) b0
  have hx1 := name_len hk (by simp) b1
  have hx2 := name_len hk (by simp) b2
  clear hA0
  have G : Given W noOwn #[.slice a0 len0 cap0, .slice a1 len1 cap1, .slice a2 len2 cap2] [.d (.sl 2 nl0 (rows xs0)), .d (.sl 2 nl1 (rows xs1)), .d (.sl 2 nl2 (rows xs2))] := by
    refine ⟨rfl, fun j x hx => ?_⟩
    rcases j with _ | _ | _ | j
    · simp at hx; subst hx; exact .d _ _ R0
    · simp at hx; subst hx; exact .d _ _ R1
    · simp at hx; subst hx; exact .d _ _ R2
    · simp at hx
  refine (call_of envOk (fun g => rfl) (t11 (xs0.length + xs1.length + xs2.length + 201) 0 nl0 nl1 nl2 xs0 xs1 xs2 hx0 hx1 hx2 (by omega)) G).mono fun e W' ⟨he, bel⟩ => ?_
  subst he
  exact ⟨_, rfl, _, _, _, [], _, [], hW', trodAll_mk1 (shut_bool Try.underlying4 _),
    (trodAll_cons_mk (Below.trod laidOut (by kernel_rfl) (of_decide_eq_true (by kernel_rfl)) k0 bel lt0) (trodAll_cons_mk (Below.trod laidOut (by kernel_rfl) (of_decide_eq_true (by kernel_rfl)) k1 bel lt1)
      (trodAll_cons_mk (Below.trod laidOut (by kernel_rfl) (of_decide_eq_true (by kernel_rfl)) k2 bel lt2) trodAll_mk0))), rfl, bel.frame _, fun h => by cases h⟩

set_option maxRecDepth 100000 in
theorem lifted (os : Os) (started : os.Started) (H : Type) (enc : TypeId × Value → H) (F : Stop.Interp) :
    ReturnsInHanded {} Try.checked os 11 .any ((Rows.OpenSpec.upto Rows.nameOnSpec).pre6 enc Try.prog Try.f11 Rows.nameOnUptoRow.domain false) (((Rows.OpenSpec.upto Rows.nameOnSpec).at F).post enc Try.prog Try.f11 false true false false) := by
  refine returnsInHanded_of_cond (C := Try.checked) (s := Rows.OpenSpec.upto Rows.nameOnSpec) (k := Rows.uptoSmall) rfl own started (by kernel_rfl) Try.func11
    (OpenSpec.witness (enc := enc) (C := Try.checked) (s := Rows.OpenSpec.upto Rows.nameOnSpec) (k := Rows.uptoSmall) rfl false ⟨#[], #[.slice none 0 0, .slice none 0 0, .slice none 0 0], []⟩ 8 (by kernel_rfl) (by kernel_rfl) (by kernel_rfl)
      (x := ([.nil, .nil, .nil], [], [])) (by kernel_rfl) rfl (by kernel_rfl)) ?_
  intro W base args ds gs before hval hW _ hk _
  exact contract H enc W base args ds gs before hval hW hk

theorem over : Rows.nameOnUptoRow.holds Try.pinned (Rows.OpenSpec.upto Rows.nameOnSpec) :=
  OpenClaim.holds_of_cond 11 Try.f11 rfl rfl rfl rfl rfl rfl rfl ⟨rfl, rfl, rfl, rfl, rfl⟩ rfl rfl rfl rfl rfl (by kernel_rfl) Try.func11 (by kernel_rfl)
    (of_decide_eq_true (by kernel_rfl)) (by unfold Func.isWrapper; first | (rw [if_pos (by decide +kernel)]; kernel_rfl) | (rw [if_neg (by decide +kernel)]; exact ⟨rfl, rfl⟩))
    (fun os started H enc _ F => lifted os started H enc F)

theorem proved : Rows.NameOnUptoSaid := over
#print axioms proved
end Go.Proofs.Ytmehkdomnhgmeaa.nameOn
