/- For every input EcdsaSigns returns true, and the input reads as it did; what the laid variables are, is tied to the program's text. -/
import Derived.Test.YtjmcgdhekjkjfaaDoorSL
import Derived.Test.YtjmcgdhekjkjfaaDoorSN
import Derived.Test.YtjmcgdhekjkjfaaDoorTie
import Derived.Test.YtjmcgdhekjkjfaaDoorCards
import Derived.SevenTiedAt
namespace Go.Proofs.YtjmcgdhekjkjfaaDoor.ecdsaSigns
open Go.ChangeShapes Go.WideShapes Go.ChangeAt Go.RowKit Go.VM
set_option linter.unusedVariables false
set_option maxRecDepth 100000 in
set_option maxHeartbeats 8000000 in
theorem lifted (os : Os) (started : os.Started) (H : Type) (enc : TypeId × Value → H) :
    ReturnsInHanded {} Tryd.checked os 10 .any (fun w args => (Rows.ecdsaSignsSpec.pre enc Tryd.prog Tryd.f10 [] false w args ∧ laidMetH Tryd.prog ecLaid w) ∧ sizedMet enc Tryd.prog Tryd.f10 (OpenSpec.ofChange Rows.ecdsaSignsSpec) false w args)
      (Rows.ecdsaSignsSpec.post enc Tryd.prog Tryd.f10 false true false false) := by
  refine returnsInHanded_of_change_and (C := Tryd.checked) (X := fun w _ => laidMetH Tryd.prog ecLaid w) (fun _ _ _ hh h => h.of_heap hh) own started (by kernel_rfl) Tryd.func10
    (ChangeSpec.witness_at (enc := enc) (C := Tryd.checked) (os := os) (X := fun w _ => laidMetH Tryd.prog ecLaid w) false (ecWorld os) #[.agg #[.int .u64 0, .int .u64 0, .int .u64 0, .int .u64 0, .int .u64 0, .int .u64 0], .agg #[.int .u64 0, .int .u64 0, .int .u64 0, .int .u64 0, .int .u64 0, .int .u64 0], .slice none 0 0] 8 rfl (by kernel_rfl) (by kernel_rfl) (by kernel_rfl) (by kernel_rfl) (by kernel_rfl) (ecWorld_met os _)) ?_
  intro W base args ds gs before hval0 hW hcnd hsz0 hL _
  have hval : ∀ (j : Nat) t v, (Tryd.f10).params[j]? = some t → args[j]? = some v → Value.okWide Tryd.prog W .any base t v := hval0
  have hsz : (DataW.weightsEach Tryd.prog ((Tryd.f10).params.toList ++ Rows.ecdsaSignsSpec.plain.varTypes Tryd.prog) (ds ++ gs)).all (· ≤ reachBytes) = true := hsz0
  have hg := rep_ec hL
  have hW' := hW
  obtain ⟨p, q, hA0, hV, rfl, hfz, hnd⟩ := hW
  have hA : DataW.TrodAll enc Tryd.prog W 0 (fun _ => true) true (Tryd.f10).params.toList args.toList ds p := hA0
  rw [Tryd.params10] at hA hval hsz
  obtain ⟨v0, vs0, d0, ds0, p0, q0, hargs, rfl, rfl, h0, r0⟩ := trodAll_cons hA
  obtain ⟨v1, vs1, d1, ds1, p1, q1, rfl, rfl, rfl, h1, r1⟩ := trodAll_cons r0
  obtain ⟨v2, vs2, d2, ds2, p2, q2, rfl, rfl, rfl, h2, r2⟩ := trodAll_cons r1
  obtain ⟨rfl, rfl, rfl⟩ := trodAll_nil r2
  obtain rfl : args = #[v0, v1, v2] := by cases args; simp_all
  obtain ⟨rfl, rfl⟩ := trodVars_none hV
  have ok0 := hval 0 64 v0 rfl rfl
  simp only [Value.okWide, Tryd.underlying64] at ok0
  obtain ⟨arr0, rfl, _, _⟩ := ok0
  have k0 := h0
  have lt0 : ∀ x ∈ p0, x.block < W.heap.size := by obtain ⟨m, hm⟩ := k0; exact DataW.trod_lt m _ _ _ hm
  obtain ⟨ns0, hl0, hw0, R0⟩ := flat_in (m := 9) (k := 9) (n := 6) (q := .u64) h0 (by kernel_rfl) (by kernel_rfl) (by kernel_rfl)
  obtain ⟨c0_0, c0_1, c0_2, c0_3, c0_4, c0_5, rfl⟩ : ∃ c0 c1 c2 c3 c4 c5, ns0 = [c0, c1, c2, c3, c4, c5] := by
    match ns0, hl0 with
    | [c0, c1, c2, c3, c4, c5], _ => exact ⟨c0, c1, c2, c3, c4, c5, rfl⟩
  have i0 : In64 [c0_0, c0_1, c0_2, c0_3, c0_4, c0_5] := fun x hx => u64_of_wf (hw0 x hx)
  have ok1 := hval 1 64 v1 rfl rfl
  simp only [Value.okWide, Tryd.underlying64] at ok1
  obtain ⟨arr1, rfl, _, _⟩ := ok1
  have k1 := h1
  have lt1 : ∀ x ∈ p1, x.block < W.heap.size := by obtain ⟨m, hm⟩ := k1; exact DataW.trod_lt m _ _ _ hm
  obtain ⟨ns1, hl1, hw1, R1⟩ := flat_in (m := 9) (k := 9) (n := 6) (q := .u64) h1 (by kernel_rfl) (by kernel_rfl) (by kernel_rfl)
  obtain ⟨c1_0, c1_1, c1_2, c1_3, c1_4, c1_5, rfl⟩ : ∃ c0 c1 c2 c3 c4 c5, ns1 = [c0, c1, c2, c3, c4, c5] := by
    match ns1, hl1 with
    | [c0, c1, c2, c3, c4, c5], _ => exact ⟨c0, c1, c2, c3, c4, c5, rfl⟩
  have i1 : In64 [c1_0, c1_1, c1_2, c1_3, c1_4, c1_5] := fun x hx => u64_of_wf (hw1 x hx)
  have ok2 := hval 2 22 v2 rfl rfl
  obtain ⟨a2, len2, cap2, rfl⟩ := okWide_slice Tryd.underlying22 ok2
  have k2 := h2
  have lt2 : ∀ x ∈ p2, x.block < W.heap.size := by obtain ⟨m, hm⟩ := k2; exact DataW.trod_lt m _ _ _ hm
  have R2 : ∃ nl xs, (nl = true → xs = []) ∧ xs.length ≤ 140737488355328 ∧ (∀ x ∈ xs, 0 ≤ x ∧ x < 256) ∧ RepD W noOwn (.slice a2 len2 cap2) (.nums .u8 nl xs) := by
    obtain ⟨fuel, hf⟩ := h2
    rcases open_ints Tryd.underlying22 Tryd.underlying5 (by kernel_rfl) hf with ⟨hcs, _⟩ | ⟨x, l, c, zs, hcs, _, hl, hm, hz, hdd, hcell, hwz⟩
    · simp [Value.cells] at hcs
      obtain ⟨rfl, rfl, rfl⟩ := hcs
      exact ⟨true, [], fun _ => rfl, by simp, by simp, rep_nil W .u8⟩
    · simp [Value.cells] at hcs
      obtain ⟨rfl, rfl, rfl⟩ := hcs
      have hd0 := congrArg Prod.fst hdd
      simp only at hd0
      have hb := sized_slice hsz (j := 2) (t := 22) (e := 5) rfl (by rw [hd0]; rfl) Tryd.underlying22
      rw [show Tryd.prog.bytesOf 5 = 1 by kernel_rfl] at hb
      simp only [lits, List.length_map, List.length_take, List.length_drop, reachBytes] at hb
      have hs : x.spot = none := by
        simp only [Value.okWide, Tryd.underlying22, Cell.okWide, Cell.ok, World.has] at ok2
        exact ok2.2.2.2.1
      obtain ⟨b, o, s⟩ := x
      simp only at hs
      subst hs
      simp at hz
      exact ⟨false, _, fun h => (by cases h), (by simp only [List.length_take]; omega), (fun x hx => byte_of_wf (hwz x (List.mem_of_mem_take hx))), rep_row hl hm (by omega) hcell hwz⟩
  obtain ⟨nl2, xs2, hn2, hx2, hb2, R2⟩ := R2
  clear hA0 hval0
  have G : Given W noOwn #[.agg arr0, .agg arr1, .slice a2 len2 cap2] [.d (.agg [.int .u64 c0_0, .int .u64 c0_1, .int .u64 c0_2, .int .u64 c0_3, .int .u64 c0_4, .int .u64 c0_5]), .d (.agg [.int .u64 c1_0, .int .u64 c1_1, .int .u64 c1_2, .int .u64 c1_3, .int .u64 c1_4, .int .u64 c1_5]), .d (.nums .u8 nl2 xs2)] := by
    refine ⟨rfl, fun j x hx => ?_⟩
    rcases j with _ | _ | _ | j
    · simp at hx; subst hx; exact .d _ _ (R0)
    · simp at hx; subst hx; exact .d _ _ (R1)
    · simp at hx; subst hx; exact .d _ _ (R2)
    · simp at hx
  refine (call_ofG gEs_ok (es_law 2000000 (by omega) 0 c0_0 c0_1 c0_2 c0_3 c0_4 c0_5 c1_0 c1_1 c1_2 c1_3 c1_4 c1_5 i0 i1 nl2 xs2 hn2) G hg).mono fun e W' ⟨he, bel⟩ => ?_
  subst he
  exact ⟨_, rfl, _, _, _, [], _, [], hW', trodAll_mk1 (shut_bool Tryd.underlying4 _), (trodAll_cons_mk (Below.trod laidOut (by kernel_rfl) (of_decide_eq_true (by kernel_rfl)) k0 bel lt0) (trodAll_cons_mk (Below.trod laidOut (by kernel_rfl) (of_decide_eq_true (by kernel_rfl)) k1 bel lt1) (trodAll_cons_mk (Below.trod laidOut (by kernel_rfl) (of_decide_eq_true (by kernel_rfl)) k2 bel lt2) trodAll_mk0))), rfl, bel.frame _, fun h => by cases h⟩
theorem over : Rows.EcdsaSignsSaid :=
  OpenClaim.holds_of_wide 10 Tryd.f10 rfl rfl rfl rfl rfl rfl rfl ⟨rfl, rfl, rfl, rfl, rfl⟩ rfl rfl rfl rfl rfl (by kernel_rfl) Tryd.func10 (by kernel_rfl)
    (of_decide_eq_true (by kernel_rfl)) (by unfold Func.isWrapper; first | (rw [if_pos (by decide +kernel)]; kernel_rfl) | (rw [if_neg (by decide +kernel)]; exact ⟨rfl, rfl⟩))
    (fun os started H enc _ => lifted os started H enc)
theorem proved : Rows.EcdsaSignsCardSaid :=
  Claim7.holds_tied_plain_at .later [] [.handle, .data, .data, .data, .data, .data, .data] true (true, "74daaa412f86fc3bb04138224005604edd6cfe23a9c6e9638b2b0aa82d7cd3fe") true
    over (fun _ h => by cases h) (by kernel_rfl) (fun _ h => by cases h) ecdsaSigns_row_tie rfl ⟨rfl, rfl⟩ (by kernel_rfl) rfl
    (fun f fn hf hfn => by
      obtain rfl : f = 10 := Option.some.inj ((show Tryd.prog.funcNamed "escutcheon/escutcheonlaw14.EcdsaSigns" = some 10 by kernel_rfl).symm.trans hf) |>.symm
      obtain rfl : fn = Tryd.f10 := (Option.some.inj (Tryd.func10.symm.trans hfn)).symm
      exact ⟨by kernel_rfl, fun j t ht => by
        rw [Tryd.params10] at ht
        rcases j with _ | _ | _ | j
        · obtain rfl : 64 = t := by simpa using ht
          exact (show Tryd.prog.wantsStandIn 64 = false by kernel_rfl)
        · obtain rfl : 64 = t := by simpa using ht
          exact (show Tryd.prog.wantsStandIn 64 = false by kernel_rfl)
        · obtain rfl : 22 = t := by simpa using ht
          exact (show Tryd.prog.wantsStandIn 22 = false by kernel_rfl)
        · simp at ht⟩)
    (by kernel_rfl)
#print axioms proved
end Go.Proofs.YtjmcgdhekjkjfaaDoor.ecdsaSigns
