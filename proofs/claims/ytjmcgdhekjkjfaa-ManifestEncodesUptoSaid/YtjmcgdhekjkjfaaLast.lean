/- For every manifest of bulk at most 1048576 ManifestEncodes returns true, and the input reads as it did. -/
import Derived.Test.YtjmcgdhekjkjfaaSH
namespace Go.Proofs.Ytjmcgdhekjkjfaa.manifestEncodes
open Go.ChangeShapes Go.WideShapes Go.ChangeAt Go.RowKit Go.VM
set_option linter.unusedVariables false

/-- Nothing is laid. -/
def gNone : GE := { glob := fun _ => none, ext := fun _ _ => none }
theorem gNone_ok : EnvOk Try.prog (envG gNone) := envOk gNone (fun f args r h => by cases h)

theorem man_of_fit {B f : Nat} {ds : List D} (h : Fit (envG gNone).tt B f 24 ds) : ∃ (v0 v1 v2 v3 : Int) (n1 n2 n3 : Bool) (x y z : List Int),
    ds = [.int .i64 v0, .int .i64 v1, .int .i64 v2, .int .i64 v3, .nums .u8 n1 x, .nums .u8 n2 y, .nums .u8 n3 z] ∧
    (-9223372036854775808 ≤ v0 ∧ v0 ≤ 9223372036854775807) ∧ (-9223372036854775808 ≤ v1 ∧ v1 ≤ 9223372036854775807) ∧ (-9223372036854775808 ≤ v2 ∧ v2 ≤ 9223372036854775807) ∧ (-9223372036854775808 ≤ v3 ∧ v3 ≤ 9223372036854775807) ∧
    (∀ c ∈ x, 0 ≤ c ∧ c < 256) ∧ (∀ c ∈ y, 0 ≤ c ∧ c < 256) ∧ (∀ c ∈ z, 0 ≤ c ∧ c < 256) := by
  cases f with
  | zero => exact h.elim
  | succ f =>
    simp only [Fit, tt24] at h
    obtain ⟨hl, hp⟩ := h
    match ds, hl, hp with
    | [d0, d1, d2, d3, d4, d5, d6], _, hp =>
      obtain ⟨_, q0, p0⟩ := hp (0, 3) (by simp)
      obtain ⟨_, q1, p1⟩ := hp (1, 3) (by simp)
      obtain ⟨_, q2, p2⟩ := hp (2, 3) (by simp)
      obtain ⟨_, q3, p3⟩ := hp (3, 3) (by simp)
      obtain ⟨_, q4, p4⟩ := hp (4, 22) (by simp)
      obtain ⟨_, q5, p5⟩ := hp (5, 22) (by simp)
      obtain ⟨_, q6, p6⟩ := hp (6, 22) (by simp)
      cases q0; cases q1; cases q2; cases q3; cases q4; cases q5; cases q6
      obtain ⟨v0, r0, w0⟩ := fit_int (k := .i64) (tt3 _) rfl p0
      obtain ⟨v1, r1, w1⟩ := fit_int (k := .i64) (tt3 _) rfl p1
      obtain ⟨v2, r2, w2⟩ := fit_int (k := .i64) (tt3 _) rfl p2
      obtain ⟨v3, r3, w3⟩ := fit_int (k := .i64) (tt3 _) rfl p3
      obtain ⟨n1, x, r4, _, _, w4⟩ := fit_nums (k := .u8) (tt22 _) rfl (tt5 _) rfl p4
      obtain ⟨n2, y, r5, _, _, w5⟩ := fit_nums (k := .u8) (tt22 _) rfl (tt5 _) rfl p5
      obtain ⟨n3, z, r6, _, _, w6⟩ := fit_nums (k := .u8) (tt22 _) rfl (tt5 _) rfl p6
      simp at r0 r1 r2 r3 r4 r5 r6
      subst r0 r1 r2 r3 r4 r5 r6
      exact ⟨v0, v1, v2, v3, n1, n2, n3, x, y, z, rfl, i64_of w0, i64_of w1, i64_of w2, i64_of w3, u8_of w4, u8_of w5, u8_of w6⟩

theorem contract (H : Type) (enc : TypeId × Value → H) (W : World) (base : Nat) (args : Array Value) (ds gs : List (DataW H)) (before : List MemPlace)
    (hval : ∀ (j : Nat) t v, (Try.f4).params[j]? = some t → args[j]? = some v → Value.okWide Try.prog W .any base t v)
    (hW : DataW.Whole enc Try.prog (Try.f4).params.toList Rows.manifestEncodesSpec.vars false W args.toList ds gs before) (hk : Rows.uptoSmall H (ds ++ gs) = true) :
    Calls Try.prog 4 args W fun e W' => ∃ v, e = .returned v ∧ Rows.manifestEncodesSpec.post enc Try.prog Try.f4 false true false false W args v W' := by
  have hW' := hW
  obtain ⟨p, q, hA0, hV, rfl, hfz, hnd⟩ := hW
  have hA : DataW.TrodAll enc Try.prog W 0 (fun _ => true) true (Try.f4).params.toList args.toList ds p := hA0
  rw [Try.params4] at hA hval
  obtain ⟨v0, vs0, d0, ds0, p0, q0, hargs, rfl, rfl, h0, r0⟩ := trodAll_cons hA
  obtain ⟨rfl, rfl, rfl⟩ := trodAll_nil r0
  obtain rfl : args = #[v0] := by cases args; simp_all
  obtain ⟨rfl, rfl⟩ := trodVars_none hV
  have ok0 := hval 0 24 v0 rfl rfl
  simp only [Value.okWide, Try.underlying24] at ok0
  obtain ⟨arr, rfl, _, _⟩ := ok0
  have k0 := h0
  have lt0 : ∀ x ∈ p0, x.block < W.heap.size := by obtain ⟨m, hm⟩ := k0; exact DataW.trod_lt m _ _ _ hm
  have hb : bulk d0 ≤ 1048576 := by
    have h1 := bulk_le hk
    have h2 := bulk_mem (d := d0) (l := [d0] ++ []) (by simp)
    rw [upto_bulk] at h2
    exact Nat.le_trans h2 h1
  obtain ⟨cs, f, R0, hfit⟩ := agg_in gNone_ok (L := [3, 5, 22, 24]) (by kernel_rfl) (by simp) h0 hb
  obtain ⟨a, b, c, d, n1, n2, n3, x, y, z, rfl, i0, i1, i2, i3, b1, b2, b3⟩ := man_of_fit hfit
  clear hA0
  have G : Given W noOwn #[.agg arr] [.d (.agg [.int .i64 a, .int .i64 b, .int .i64 c, .int .i64 d, .nums .u8 n1 x, .nums .u8 n2 y, .nums .u8 n3 z])] := by
    refine ⟨rfl, fun j y hy => ?_⟩
    rcases j with _ | j
    · simp at hy; subst hy; exact .d _ _ R0
    · simp at hy
  refine (call_ofG gNone_ok (e_law (G := gNone) 2000000 (by omega) (by omega) 0 a b c d n1 n2 n3 x y z i0 i1 i2 i3 b1 b2 b3) G (fun g cs h => by cases h)).mono fun e W' ⟨he, bel⟩ => ?_
  subst he
  exact ⟨_, rfl, _, _, _, [], _, [], hW', trodAll_mk1 (shut_bool Try.underlying4 _),
    (trodAll_cons_mk (Below.trod laidOutK (by kernel_rfl) (of_decide_eq_true (by kernel_rfl)) k0 bel lt0) trodAll_mk0), rfl, bel.frame _, fun h => by cases h⟩

set_option maxRecDepth 100000 in
theorem lifted (os : Os) (started : os.Started) (H : Type) (enc : TypeId × Value → H) (F : Stop.Interp) :
    ReturnsInHanded {} Try.checked os 4 .any ((Rows.OpenSpec.upto Rows.manifestEncodesSpec).pre6 enc Try.prog Try.f4 Rows.manifestEncodesUptoRow.domain false) (((Rows.OpenSpec.upto Rows.manifestEncodesSpec).at F).post enc Try.prog Try.f4 false true false false) := by
  refine returnsInHanded_of_cond (C := Try.checked) (s := Rows.OpenSpec.upto Rows.manifestEncodesSpec) (k := Rows.uptoSmall) rfl ownK started (by kernel_rfl) Try.func4
    (OpenSpec.witness (enc := enc) (C := Try.checked) (s := Rows.OpenSpec.upto Rows.manifestEncodesSpec) (k := Rows.uptoSmall) rfl false ⟨#[], #[.agg #[.int .i64 0, .int .i64 0, .int .i64 0, .int .i64 0, .slice none 0 0, .slice none 0 0, .slice none 0 0]], []⟩ 8 (by kernel_rfl) (by kernel_rfl) (by kernel_rfl)
      (x := ([.agg [.lit (.int .i64 0), .lit (.int .i64 0), .lit (.int .i64 0), .lit (.int .i64 0), .nil, .nil, .nil]], [], [])) (by kernel_rfl) rfl (by kernel_rfl)) ?_
  intro W base args ds gs before hval hW _ hk _
  exact contract H enc W base args ds gs before hval hW hk

theorem over : Rows.manifestEncodesUptoRow.holds Try.pinned (Rows.OpenSpec.upto Rows.manifestEncodesSpec) :=
  OpenClaim.holds_of_cond 4 Try.f4 rfl rfl rfl rfl rfl rfl rfl ⟨rfl, rfl, rfl, rfl, rfl⟩ rfl rfl rfl rfl rfl (by kernel_rfl) Try.func4 (by kernel_rfl)
    (of_decide_eq_true (by kernel_rfl)) (by unfold Func.isWrapper; first | (rw [if_pos (by decide +kernel)]; kernel_rfl) | (rw [if_neg (by decide +kernel)]; exact ⟨rfl, rfl⟩))
    (fun os started H enc _ F => lifted os started H enc F)

theorem proved : Rows.ManifestEncodesUptoSaid := over
#print axioms proved
end Go.Proofs.Ytjmcgdhekjkjfaa.manifestEncodes
