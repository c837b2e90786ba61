/- For every input DeviceLasts returns true, and the input reads as it did; what the laid variables are, is tied to the program's text. -/
import Derived.Test.YtjmcgdhekjkjfaaDoorSC
import Derived.Test.YtjmcgdhekjkjfaaDoorSD
import Derived.Test.YtjmcgdhekjkjfaaDoorTie
import Derived.Test.YtjmcgdhekjkjfaaDoorCards
import Derived.SevenTiedAt
namespace Go.Proofs.YtjmcgdhekjkjfaaDoor.deviceLasts
open Go.ChangeShapes Go.WideShapes Go.ChangeAt Go.RowKit Go.VM
set_option linter.unusedVariables false
set_option maxRecDepth 100000 in
set_option maxHeartbeats 8000000 in
theorem lifted (os : Os) (started : os.Started) (H : Type) (enc : TypeId × Value → H) :
    ReturnsInHanded {} Tryd.checked os 6 .any (fun w args => (Rows.deviceLastsSpec.pre enc Tryd.prog Tryd.f6 [] false w args ∧ laidMetH Tryd.prog dvData w) ∧ sizedMet enc Tryd.prog Tryd.f6 (OpenSpec.ofChange Rows.deviceLastsSpec) false w args)
      (Rows.deviceLastsSpec.post enc Tryd.prog Tryd.f6 false true false false) := by
  refine returnsInHanded_of_change_and (C := Tryd.checked) (X := fun w _ => laidMetH Tryd.prog dvData w) (fun _ _ _ hh h => h.of_heap hh) ownD started (by kernel_rfl) Tryd.func6
    (ChangeSpec.witness_at (enc := enc) (C := Tryd.checked) (os := os) (X := fun w _ => laidMetH Tryd.prog dvData w) false (dvWorld os) #[.int .i64 0, .slice none 0 0] 8 rfl (by kernel_rfl) (by kernel_rfl) (by kernel_rfl) (by kernel_rfl) (by kernel_rfl) (dvWorld_met os _)) ?_
  intro W base args ds gs before hval0 hW hcnd hsz0 hL _
  have hval : ∀ (j : Nat) t v, (Tryd.f6).params[j]? = some t → args[j]? = some v → Value.okWide Tryd.prog W .any base t v := hval0
  have hsz : (DataW.weightsEach Tryd.prog ((Tryd.f6).params.toList ++ Rows.deviceLastsSpec.plain.varTypes Tryd.prog) (ds ++ gs)).all (· ≤ reachBytes) = true := hsz0
  have hg := rep_dv hL
  have hW' := hW
  obtain ⟨p, q, hA0, hV, rfl, hfz, hnd⟩ := hW
  have hA : DataW.TrodAll enc Tryd.prog W 0 (fun _ => true) true (Tryd.f6).params.toList args.toList ds p := hA0
  rw [Tryd.params6] at hA hval hsz
  obtain ⟨v0, vs0, d0, ds0, p0, q0, hargs, rfl, rfl, h0, r0⟩ := trodAll_cons hA
  obtain ⟨v1, vs1, d1, ds1, p1, q1, rfl, rfl, rfl, h1, r1⟩ := trodAll_cons r0
  obtain ⟨rfl, rfl, rfl⟩ := trodAll_nil r1
  obtain rfl : args = #[v0, v1] := by cases args; simp_all
  obtain ⟨rfl, rfl⟩ := trodVars_none hV
  obtain ⟨a0, rfl, rfl, rfl, w0⟩ := open_int Tryd.underlying3 (hval 0 3 v0 rfl rfl) h0
  have ok1 := hval 1 48 v1 rfl rfl
  obtain ⟨a1, len1, cap1, rfl⟩ := okWide_slice Tryd.underlying48 ok1
  have k1 := h1
  have lt1 : ∀ x ∈ p1, x.block < W.heap.size := by obtain ⟨m, hm⟩ := k1; exact DataW.trod_lt m _ _ _ hm
  obtain ⟨x1, B1, f1, R1, hfit1⟩ := sl_in (G := gDv) gDv_ok (L := [3, 5, 22, 55, 48]) (by kernel_rfl) (by simp) rfl h1
  obtain ⟨nl1, ds1', rfl, hok1⟩ := deeds_fit hfit1
  clear hA0 hval0
  have G : Given W noOwn #[.int .i64 a0, .slice a1 len1 cap1] [.d (.int .i64 a0), .d (.sl 3 nl1 (ds1'.map Deed.cells))] := by
    refine ⟨rfl, fun j x hx => ?_⟩
    rcases j with _ | _ | j
    · simp at hx; subst hx; exact .d _ _ (.int _ _ (wrap_of_wf w0))
    · simp at hx; subst hx; exact .d _ _ (R1)
    · simp at hx
  refine (call_ofG gDv_ok (dl_law 2000000 0 (by omega) a0 (xi64_of (wrap_of_wf w0)) nl1 ds1' hok1) G hg).mono fun e W' ⟨he, bel⟩ => ?_
  subst he
  exact ⟨_, rfl, _, _, _, [], _, [], hW', trodAll_mk1 (shut_bool Tryd.underlying4 _), (trodAll_cons_mk (shut_int Tryd.underlying3 w0) (trodAll_cons_mk (Below.trod laidOutD (by kernel_rfl) (of_decide_eq_true (by kernel_rfl)) k1 bel lt1) trodAll_mk0)), rfl, bel.frame _, fun h => by cases h⟩
theorem over : Rows.DeviceLastsSaid :=
  OpenClaim.holds_of_wide 6 Tryd.f6 rfl rfl rfl rfl rfl rfl rfl ⟨rfl, rfl, rfl, rfl, rfl⟩ rfl rfl rfl rfl rfl (by kernel_rfl) Tryd.func6 (by kernel_rfl)
    (of_decide_eq_true (by kernel_rfl)) (by unfold Func.isWrapper; first | (rw [if_pos (by decide +kernel)]; kernel_rfl) | (rw [if_neg (by decide +kernel)]; exact ⟨rfl, rfl⟩))
    (fun os started H enc _ => lifted os started H enc)
theorem proved : Rows.DeviceLastsCardSaid :=
  Claim7.holds_tied_plain_at .later [] [.data] true (true, "74daaa412f86fc3bb04138224005604edd6cfe23a9c6e9638b2b0aa82d7cd3fe") true
    over (fun _ h => by cases h) (by kernel_rfl) (fun _ h => by cases h) deviceLasts_row_tie rfl ⟨rfl, rfl⟩ (by kernel_rfl) rfl
    (fun f fn hf hfn => by
      obtain rfl : f = 6 := Option.some.inj ((show Tryd.prog.funcNamed "escutcheon/escutcheonlaw21.DeviceLasts" = some 6 by kernel_rfl).symm.trans hf) |>.symm
      obtain rfl : fn = Tryd.f6 := (Option.some.inj (Tryd.func6.symm.trans hfn)).symm
      exact ⟨by kernel_rfl, fun j t ht => by
        rw [Tryd.params6] at ht
        rcases j with _ | _ | j
        · obtain rfl : 3 = t := by simpa using ht
          exact (show Tryd.prog.wantsStandIn 3 = false by kernel_rfl)
        · obtain rfl : 48 = t := by simpa using ht
          exact (show Tryd.prog.wantsStandIn 48 = false by kernel_rfl)
        · simp at ht⟩)
    (by kernel_rfl)
#print axioms proved
end Go.Proofs.YtjmcgdhekjkjfaaDoor.deviceLasts
