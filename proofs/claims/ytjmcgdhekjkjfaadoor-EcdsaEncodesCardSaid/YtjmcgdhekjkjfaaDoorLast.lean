/- For every input EcdsaEncodes returns true, and the input reads as it did; what the laid variables are, is tied to the program's text. -/
import Derived.Test.YtjmcgdhekjkjfaaDoorSN
import Derived.Test.YtjmcgdhekjkjfaaDoorTie
import Derived.Test.YtjmcgdhekjkjfaaDoorCards
import Derived.SevenTiedAt
namespace Go.Proofs.YtjmcgdhekjkjfaaDoor.ecdsaEncodes
open Go.ChangeShapes Go.WideShapes Go.ChangeAt Go.RowKit Go.VM
set_option linter.unusedVariables false
set_option maxRecDepth 100000 in
set_option maxHeartbeats 8000000 in
theorem lifted (os : Os) (started : os.Started) (H : Type) (enc : TypeId × Value → H) :
    ReturnsInHanded {} Tryd.checked os 8 .any (fun w args => (Rows.ecdsaEncodesSpec.pre enc Tryd.prog Tryd.f8 [] false w args ∧ laidMetH Tryd.prog ecData w) ∧ sizedMet enc Tryd.prog Tryd.f8 (OpenSpec.ofChange Rows.ecdsaEncodesSpec) false w args)
      (Rows.ecdsaEncodesSpec.post enc Tryd.prog Tryd.f8 false true false false) := by
  refine returnsInHanded_of_change_and (C := Tryd.checked) (X := fun w _ => laidMetH Tryd.prog ecData w) (fun _ _ _ hh h => h.of_heap hh) ownF started (by kernel_rfl) Tryd.func8
    (ChangeSpec.witness_at (enc := enc) (C := Tryd.checked) (os := os) (X := fun w _ => laidMetH Tryd.prog ecData w) false (enWorld os) #[.agg #[.int .u64 0, .int .u64 0, .int .u64 0, .int .u64 0, .int .u64 0, .int .u64 0, .int .u64 0, .int .u64 0, .int .u64 0, .int .u64 0, .int .u64 0, .int .u64 0]] 8 rfl (by kernel_rfl) (by kernel_rfl) (by kernel_rfl) (by kernel_rfl) (by kernel_rfl) (enWorld_met os _)) ?_
  intro W base args ds gs before hval0 hW hcnd hsz0 hL _
  have hval : ∀ (j : Nat) t v, (Tryd.f8).params[j]? = some t → args[j]? = some v → Value.okWide Tryd.prog W .any base t v := hval0
  have hsz : (DataW.weightsEach Tryd.prog ((Tryd.f8).params.toList ++ Rows.ecdsaEncodesSpec.plain.varTypes Tryd.prog) (ds ++ gs)).all (· ≤ reachBytes) = true := hsz0
  have hg := rep_en hL
  have hW' := hW
  obtain ⟨p, q, hA0, hV, rfl, hfz, hnd⟩ := hW
  have hA : DataW.TrodAll enc Tryd.prog W 0 (fun _ => true) true (Tryd.f8).params.toList args.toList ds p := hA0
  rw [Tryd.params8] at hA hval hsz
  obtain ⟨v0, vs0, d0, ds0, p0, q0, hargs, rfl, rfl, h0, r0⟩ := trodAll_cons hA
  obtain ⟨rfl, rfl, rfl⟩ := trodAll_nil r0
  obtain rfl : args = #[v0] := by cases args; simp_all
  obtain ⟨rfl, rfl⟩ := trodVars_none hV
  have ok0 := hval 0 66 v0 rfl rfl
  simp only [Value.okWide, Tryd.underlying66] at ok0
  obtain ⟨arr, rfl, _, _⟩ := ok0
  have k0 := h0
  have lt0 : ∀ x ∈ p0, x.block < W.heap.size := by obtain ⟨m, hm⟩ := k0; exact DataW.trod_lt m _ _ _ hm
  obtain ⟨ns, hl, hw, R0⟩ := flat_in (m := 9) (k := 9) (n := 12) (q := .u64) h0 (by kernel_rfl) (by kernel_rfl) (by kernel_rfl)
  obtain ⟨a0, a1, a2, a3, a4, a5, b0, b1, b2, b3, b4, b5, rfl⟩ : ∃ a0 a1 a2 a3 a4 a5 b0 b1 b2 b3 b4 b5, ns = [a0, a1, a2, a3, a4, a5, b0, b1, b2, b3, b4, b5] := by
    obtain ⟨a0, a1, a2, a3, a4, a5, h1⟩ := six (l := ns.take 6) (by rw [List.length_take]; omega)
    obtain ⟨b0, b1, b2, b3, b4, b5, h2⟩ := six (l := ns.drop 6) (by rw [List.length_drop]; omega)
    exact ⟨a0, a1, a2, a3, a4, a5, b0, b1, b2, b3, b4, b5, by rw [← List.take_append_drop 6 ns, h1, h2]; rfl⟩
  have ia : In64 [a0, a1, a2, a3, a4, a5] := fun x hx => u64_of_wf (hw x (List.mem_append_left [b0, b1, b2, b3, b4, b5] hx))
  have ib : In64 [b0, b1, b2, b3, b4, b5] := fun x hx => u64_of_wf (hw x (List.mem_append_right [a0, a1, a2, a3, a4, a5] hx))
  clear hA0 hval0
  have G : Given W noOwn #[.agg arr] [.d (sigD [a0, a1, a2, a3, a4, a5] [b0, b1, b2, b3, b4, b5])] := by
    refine ⟨rfl, fun j x hx => ?_⟩
    cases j with
    | zero => simp at hx; subst hx; exact .d _ _ R0
    | succ j => simp at hx
  refine (call_ofG gEn_ok (n_law 2000000 (by omega) (by omega) 0 a0 a1 a2 a3 a4 a5 b0 b1 b2 b3 b4 b5 ia ib) G hg).mono fun e W' ⟨he, bel⟩ => ?_
  subst he
  exact ⟨_, rfl, _, _, _, [], _, [], hW', trodAll_mk1 (shut_bool Tryd.underlying4 _), (trodAll_cons_mk (Below.trod laidOutF (by kernel_rfl) (of_decide_eq_true (by kernel_rfl)) k0 bel lt0) trodAll_mk0), rfl, bel.frame _, fun h => by cases h⟩
theorem over : Rows.EcdsaEncodesSaid :=
  OpenClaim.holds_of_wide 8 Tryd.f8 rfl rfl rfl rfl rfl rfl rfl ⟨rfl, rfl, rfl, rfl, rfl⟩ rfl rfl rfl rfl rfl (by kernel_rfl) Tryd.func8 (by kernel_rfl)
    (of_decide_eq_true (by kernel_rfl)) (by unfold Func.isWrapper; first | (rw [if_pos (by decide +kernel)]; kernel_rfl) | (rw [if_neg (by decide +kernel)]; exact ⟨rfl, rfl⟩))
    (fun os started H enc _ => lifted os started H enc)
theorem proved : Rows.EcdsaEncodesCardSaid :=
  Claim7.holds_tied_plain_at .later [] [.data, .data, .data, .data, .data, .data] true (true, "74daaa412f86fc3bb04138224005604edd6cfe23a9c6e9638b2b0aa82d7cd3fe") true
    over (fun _ h => by cases h) (by kernel_rfl) (fun _ h => by cases h) ecdsaEncodes_row_tie rfl ⟨rfl, rfl⟩ (by kernel_rfl) rfl
    (fun f fn hf hfn => by
      obtain rfl : f = 8 := Option.some.inj ((show Tryd.prog.funcNamed "escutcheon/escutcheonlaw14.EcdsaEncodes" = some 8 by kernel_rfl).symm.trans hf) |>.symm
      obtain rfl : fn = Tryd.f8 := (Option.some.inj (Tryd.func8.symm.trans hfn)).symm
      exact ⟨by kernel_rfl, fun j t ht => by
        rw [Tryd.params8] at ht
        have h3 : t = 66 := by
          rcases j with _ | j
          · simpa using ht.symm
          · simp at ht
        subst h3
        exact (show Tryd.prog.wantsStandIn 66 = false by kernel_rfl)⟩)
    (by kernel_rfl)
#print axioms proved
end Go.Proofs.YtjmcgdhekjkjfaaDoor.ecdsaEncodes
