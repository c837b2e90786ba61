/- For every element of bulk at most 1048576 NameOf returns true, and the input reads as it did. -/
import Derived.Test.YtmehkdomnhgmeaaT63
import Derived.Test.YtmehkdomnhgmeaaN2
import Derived.Test.YtmehkdomnhgmeaaRows
import Derived.WalkKit
import Derived.ProofKit
import Derived.OpenShut
import Derived.JoinedCond
import Derived.Below
namespace Go.Proofs.Ytmehkdomnhgmeaa.nameOf
open Go.ChangeShapes Go.WideShapes Go.ChangeAt Go.RowKit Go.VM
set_option linter.unusedVariables false

theorem own : ownKnob Try.prog.godebug = none := by kernel_rfl

theorem tlv_in {H : Type} {enc : TypeId × Value → H} {W : World} {arr : Array Value} {d : DataW H} {p : List MemPlace}
    (h : DataW.Trod enc Try.prog W 0 (fun _ => true) true 62 (.agg arr) d p) (hb : bulk d ≤ 1048576) :
    ∃ x : Tlv, RepD W noOwn (.agg arr) (.agg x.cells) ∧ x.width 1048576 ∧ x.bytesOk := by
  obtain ⟨fuel, hf⟩ := h
  obtain ⟨ds, ⟨g1, g2, g3⟩, hfit⟩ := open_any envOk.tt (L := [3, 4, 5, 22, 60, 62]) (by kernel_rfl) 1048576 fuel 62 _ _ (by simp) hf hb
  obtain ⟨x, rfl, hw, hby⟩ := tlv_of_fit _ _ _ hfit
  have e : (Value.agg arr).cells.toList = arr.toList := rfl
  rw [e] at g1 g2 g3
  refine ⟨x, .agg arr x.cells (by simpa using g1.symm) (fun j hj => ?_) (fun j y hy => ?_), hw, hby⟩
  · have : arr.getD j undef = arr.toList[j]'(by simpa using hj) := by simp [Array.getD, hj]
    rw [this]
    exact g3 _ (List.getElem_mem _)
  · have hlt := (List.getElem?_eq_some_iff.1 hy).1
    rw [g1] at hlt
    have h1 : arr.toList[j]? = some (arr.getD j undef) := by
      have : j < arr.size := by simpa using hlt
      simp [Array.getD, this]
    exact g2 j _ y h1 hy

theorem contract (H : Type) (enc : TypeId × Value → H) (W : World) (base : Nat) (args : Array Value) (ds gs : List (DataW H)) (before : List MemPlace)
    (hval : ∀ (j : Nat) t v, Try.f13.params[j]? = some t → args[j]? = some v → Value.okWide Try.prog W .any base t v)
    (hW : DataW.Whole enc Try.prog Try.f13.params.toList Rows.nameOfSpec.vars false W args.toList ds gs before) (hk : Rows.uptoSmall H (ds ++ gs) = true) :
    Calls Try.prog 13 args W fun e W' => ∃ v, e = .returned v ∧ Rows.nameOfSpec.post enc Try.prog Try.f13 false true false false W args v W' := by
  have hW' := hW
  obtain ⟨p, q, hA0, hV, rfl, hfz, hnd⟩ := hW
  have hA : DataW.TrodAll enc Try.prog W 0 (fun _ => true) true Try.f13.params.toList args.toList ds p := hA0
  rw [Try.params13] at hA hval
  obtain ⟨v0, vs0, d0, ds0, p0, q0, hargs, rfl, rfl, h0, r0⟩ := trodAll_cons hA
  obtain ⟨rfl, rfl, rfl⟩ := trodAll_nil r0
  obtain rfl : args = #[v0] := by cases args; simp_all
  obtain ⟨rfl, rfl⟩ := trodVars_none hV
  have ok0 := hval 0 62 v0 rfl rfl
  simp only [Value.okWide, Try.underlying62] at ok0
  obtain ⟨arr, rfl, _, _⟩ := ok0
  have k0 := h0
  have lt0 : ∀ x ∈ p0, x.block < W.heap.size := by obtain ⟨m, hm⟩ := k0; exact DataW.trod_lt m _ _ _ hm
  have hb : bulk d0 ≤ 1048576 := by
    have h1 := bulk_le hk
    have h2 := bulk_mem (d := d0) (l := [d0] ++ []) (by simp)
    rw [upto_bulk] at h2
    exact Nat.le_trans h2 h1
  obtain ⟨x, R0, hw, hby⟩ := tlv_in h0 hb
  clear hA0
  have G : Given W noOwn #[.agg arr] [.d (.agg x.cells)] := by
    refine ⟨rfl, fun j y hy => ?_⟩
    rcases j with _ | j
    · simp at hy; subst hy; exact .d _ _ R0
    · simp at hy
  refine (call_of envOk (fun g => rfl) (t13 2000000 0 (by omega) (by omega) x hw hby) G).mono fun e W' ⟨he, bel⟩ => ?_
  subst he
  exact ⟨_, rfl, _, _, _, [], _, [], hW', trodAll_mk1 (shut_bool Try.underlying4 _),
    (trodAll_cons_mk (Below.trod laidOut (by kernel_rfl) (of_decide_eq_true (by kernel_rfl)) k0 bel lt0) trodAll_mk0), rfl, bel.frame _, fun h => by cases h⟩

set_option maxRecDepth 100000 in
theorem lifted (os : Os) (started : os.Started) (H : Type) (enc : TypeId × Value → H) (F : Stop.Interp) :
    ReturnsInHanded {} Try.checked os 13 .any ((Rows.OpenSpec.upto Rows.nameOfSpec).pre6 enc Try.prog Try.f13 Rows.nameOfUptoRow.domain false) (((Rows.OpenSpec.upto Rows.nameOfSpec).at F).post enc Try.prog Try.f13 false true false false) := by
  refine returnsInHanded_of_cond (C := Try.checked) (s := Rows.OpenSpec.upto Rows.nameOfSpec) (k := Rows.uptoSmall) rfl own started (by kernel_rfl) Try.func13
    (OpenSpec.witness (enc := enc) (C := Try.checked) (s := Rows.OpenSpec.upto Rows.nameOfSpec) (k := Rows.uptoSmall) rfl false ⟨#[], #[.agg #[.int .i64 0, .int .i64 0, .bool false, .slice none 0 0, .slice none 0 0]], []⟩ 8 (by kernel_rfl) (by kernel_rfl) (by kernel_rfl)
      (x := ([.agg [.lit (.int .i64 0), .lit (.int .i64 0), .lit (.bool false), .nil, .nil]], [], [])) (by kernel_rfl) rfl (by kernel_rfl)) ?_
  intro W base args ds gs before hval hW _ hk _
  exact contract H enc W base args ds gs before hval hW hk

theorem over : Rows.nameOfUptoRow.holds Try.pinned (Rows.OpenSpec.upto Rows.nameOfSpec) :=
  OpenClaim.holds_of_cond 13 Try.f13 rfl rfl rfl rfl rfl rfl rfl ⟨rfl, rfl, rfl, rfl, rfl⟩ rfl rfl rfl rfl rfl (by kernel_rfl) Try.func13 (by kernel_rfl)
    (of_decide_eq_true (by kernel_rfl)) (by unfold Func.isWrapper; first | (rw [if_pos (by decide +kernel)]; kernel_rfl) | (rw [if_neg (by decide +kernel)]; exact ⟨rfl, rfl⟩))
    (fun os started H enc _ F => lifted os started H enc F)

theorem proved : Rows.NameOfUptoSaid := over
#print axioms proved
end Go.Proofs.Ytmehkdomnhgmeaa.nameOf
