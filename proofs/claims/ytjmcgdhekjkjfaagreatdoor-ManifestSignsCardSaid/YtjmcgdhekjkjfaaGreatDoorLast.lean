/- For every input ManifestSigns returns true, and the input reads as it did; what errors.errorType is, is tied to the program's text. -/
import Derived.Test.YtjmcgdhekjkjfaaGreatDoorSO
import Derived.Test.YtjmcgdhekjkjfaaGreatDoorTie
import Derived.Test.YtjmcgdhekjkjfaaGreatDoorCards
import Derived.SevenTiedAt
namespace Go.Proofs.YtjmcgdhekjkjfaaGreatDoor.manifestSigns
open Go.ChangeShapes Go.WideShapes Go.ChangeAt Go.RowKit Go.VM
set_option linter.unusedVariables false
set_option maxRecDepth 100000 in
set_option maxHeartbeats 8000000 in
theorem lifted (os : Os) (started : os.Started) (H : Type) (enc : TypeId × Value → H) :
    ReturnsInHanded {} Tryz.checked os 4 .any (fun w args => (Rows.manifestSignsSpec.pre enc Tryz.prog Tryz.f4 [] false w args ∧ laidMetH Tryz.prog sgLaid w) ∧ sizedMet enc Tryz.prog Tryz.f4 (OpenSpec.ofChange Rows.manifestSignsSpec) false w args)
      (Rows.manifestSignsSpec.post enc Tryz.prog Tryz.f4 false true false false) := by
  refine returnsInHanded_of_change_and (C := Tryz.checked) (X := fun w _ => laidMetH Tryz.prog sgLaid w) (fun _ _ _ hh h => h.of_heap hh) own started (by kernel_rfl) Tryz.func4
    (ChangeSpec.witness_at (enc := enc) (C := Tryz.checked) (os := os) (X := fun w _ => laidMetH Tryz.prog sgLaid w) false (sgWorld os) #[.slice none 0 0, .agg #[.int .u64 0, .int .u64 0, .int .u64 0, .int .u64 0, .int .u64 0, .int .u64 0, .int .u64 0, .int .u64 0, .int .u64 0, .int .u64 0, .int .u64 0, .int .u64 0]] 8 rfl (by kernel_rfl) (by kernel_rfl) (by kernel_rfl) (by kernel_rfl) (by kernel_rfl) (sgWorld_met os _)) ?_
  intro W base args ds gs before hval0 hW hcnd hsz0 hL _
  have hval : ∀ (j : Nat) t v, (Tryz.f4).params[j]? = some t → args[j]? = some v → Value.okWide Tryz.prog W .any base t v := hval0
  have hsz : (DataW.weightsEach Tryz.prog ((Tryz.f4).params.toList ++ Rows.manifestSignsSpec.plain.varTypes Tryz.prog) (ds ++ gs)).all (· ≤ reachBytes) = true := hsz0
  have hg := rep_sg hL
  have hW' := hW
  obtain ⟨p, q, hA0, hV, rfl, hfz, hnd⟩ := hW
  have hA : DataW.TrodAll enc Tryz.prog W 0 (fun _ => true) true (Tryz.f4).params.toList args.toList ds p := hA0
  rw [Tryz.params4] at hA hval hsz
  obtain ⟨v0, vs0, d0, ds0, p0, q0, hargs, rfl, rfl, h0, r0⟩ := trodAll_cons hA
  obtain ⟨v1, vs1, d1, ds1, p1, q1, rfl, rfl, rfl, h1, r1⟩ := trodAll_cons r0
  obtain ⟨rfl, rfl, rfl⟩ := trodAll_nil r1
  obtain rfl : args = #[v0, v1] := by cases args; simp_all
  obtain ⟨rfl, rfl⟩ := trodVars_none hV
  have ok0 := hval 0 22 v0 rfl rfl
  obtain ⟨a0, len0, cap0, rfl⟩ := okWide_slice Tryz.underlying22 ok0
  have k0 := h0
  have lt0 : ∀ x ∈ p0, x.block < W.heap.size := by obtain ⟨m, hm⟩ := k0; exact DataW.trod_lt m _ _ _ hm
  have R0 : ∃ nl xs, (nl = true → xs = []) ∧ xs.length ≤ 140737488355328 ∧ (∀ x ∈ xs, 0 ≤ x ∧ x < 256) ∧ RepD W noOwn (.slice a0 len0 cap0) (.nums .u8 nl xs) := by
    obtain ⟨fuel, hf⟩ := h0
    rcases open_ints Tryz.underlying22 Tryz.underlying5 (by kernel_rfl) hf with ⟨hcs, _⟩ | ⟨x, l, c, zs, hcs, _, hl, hm, hz, hdd, hcell, hwz⟩
    · simp [Value.cells] at hcs
      obtain ⟨rfl, rfl, rfl⟩ := hcs
      exact ⟨true, [], fun _ => rfl, by simp, by simp, rep_nil W .u8⟩
    · simp [Value.cells] at hcs
      obtain ⟨rfl, rfl, rfl⟩ := hcs
      have hd0 := congrArg Prod.fst hdd
      simp only at hd0
      have hb := sized_slice hsz (j := 0) (t := 22) (e := 5) rfl (by rw [hd0]; rfl) Tryz.underlying22
      rw [show Tryz.prog.bytesOf 5 = 1 by kernel_rfl] at hb
      simp only [lits, List.length_map, List.length_take, List.length_drop, reachBytes] at hb
      have hs : x.spot = none := by
        simp only [Value.okWide, Tryz.underlying22, Cell.okWide, Cell.ok, World.has] at ok0
        exact ok0.2.2.2.1
      obtain ⟨b, o, s⟩ := x
      simp only at hs
      subst hs
      simp at hz
      exact ⟨false, _, fun h => (by cases h), (by simp only [List.length_take]; omega), (fun x hx => byte_of_wf (hwz x (List.mem_of_mem_take hx))), rep_row hl hm (by omega) hcell hwz⟩
  have ok1 := hval 1 28 v1 rfl rfl
  simp only [Value.okWide, Tryz.underlying28] at ok1
  obtain ⟨arr, rfl, _, _⟩ := ok1
  have k1 := h1
  have lt1 : ∀ x ∈ p1, x.block < W.heap.size := by obtain ⟨m, hm⟩ := k1; exact DataW.trod_lt m _ _ _ hm
  obtain ⟨ns, hl, hw, R1⟩ := flat_in (m := 9) (k := 9) (n := 12) (q := .u64) h1 (by kernel_rfl) (by kernel_rfl) (by kernel_rfl)
  obtain ⟨e0, e1, e2, e3, e4, e5, f0, f1, f2, f3, f4, f5, rfl⟩ : ∃ a0 a1 a2 a3 a4 a5 b0 b1 b2 b3 b4 b5, ns = [a0, a1, a2, a3, a4, a5, b0, b1, b2, b3, b4, b5] := by
    obtain ⟨a0, a1, a2, a3, a4, a5, h1⟩ := six (l := ns.take 6) (by rw [List.length_take]; omega)
    obtain ⟨b0, b1, b2, b3, b4, b5, h2⟩ := six (l := ns.drop 6) (by rw [List.length_drop]; omega)
    exact ⟨a0, a1, a2, a3, a4, a5, b0, b1, b2, b3, b4, b5, by rw [← List.take_append_drop 6 ns, h1, h2]; rfl⟩
  have ia : In64 [e0, e1, e2, e3, e4, e5] := fun x hx => u64_of_wf (hw x (List.mem_append_left [f0, f1, f2, f3, f4, f5] hx))
  have ib : In64 [f0, f1, f2, f3, f4, f5] := fun x hx => u64_of_wf (hw x (List.mem_append_right [e0, e1, e2, e3, e4, e5] hx))
  clear hA0 hval0
  obtain ⟨nl0, xs0, hn0, hx0, hb0, R0⟩ := R0
  have G : Given W noOwn #[.slice a0 len0 cap0, .agg arr] [.d (.nums .u8 nl0 xs0), .d (sigD [e0, e1, e2, e3, e4, e5] [f0, f1, f2, f3, f4, f5])] := by
    refine ⟨rfl, fun j x hx => ?_⟩
    rcases j with _ | _ | j
    · simp at hx; subst hx; exact .d _ _ R0
    · simp at hx; subst hx; exact .d _ _ R1
    · simp at hx
  refine (call_ofG gSg_ok (ss_law 2000000 (by omega) (by omega) 0 xs0 nl0 hn0 hb0 e0 e1 e2 e3 e4 e5 f0 f1 f2 f3 f4 f5 ia ib) G hg).mono fun e W' ⟨he, bel⟩ => ?_
  subst he
  exact ⟨_, rfl, _, _, _, [], _, [], hW', trodAll_mk1 (shut_bool Tryz.underlying4 _), (trodAll_cons_mk (Below.trod laidOut (by kernel_rfl) (of_decide_eq_true (by kernel_rfl)) k0 bel lt0) (trodAll_cons_mk (Below.trod laidOut (by kernel_rfl) (of_decide_eq_true (by kernel_rfl)) k1 bel lt1) trodAll_mk0)), rfl, bel.frame _, fun h => by cases h⟩
theorem over : Rows.ManifestSignsSaid :=
  OpenClaim.holds_of_wide 4 Tryz.f4 rfl rfl rfl rfl rfl rfl rfl ⟨rfl, rfl, rfl, rfl, rfl⟩ rfl rfl rfl rfl rfl (by kernel_rfl) Tryz.func4 (by kernel_rfl)
    (of_decide_eq_true (by kernel_rfl)) (by unfold Func.isWrapper; first | (rw [if_pos (by decide +kernel)]; kernel_rfl) | (rw [if_neg (by decide +kernel)]; exact ⟨rfl, rfl⟩))
    (fun os started H enc _ => lifted os started H enc)
theorem proved : Rows.ManifestSignsCardSaid :=
  Claim7.holds_tied_plain_at .later [] [.handle, .data] true (true, "504489a3d808580d6a178ec1d32a5b0a428f307cefbc25e7c306cf74d861cdac") true
    over (fun _ h => by cases h) (by kernel_rfl) (fun _ h => by cases h) manifestSigns_row_tie rfl ⟨rfl, rfl⟩ (by kernel_rfl) rfl
    (fun f fn hf hfn => by
      obtain rfl : f = 4 := Option.some.inj ((show Tryz.prog.funcNamed "escutcheon/escutcheonlaw20.ManifestSigns" = some 4 by kernel_rfl).symm.trans hf) |>.symm
      obtain rfl : fn = Tryz.f4 := (Option.some.inj (Tryz.func4.symm.trans hfn)).symm
      exact ⟨by kernel_rfl, fun j t ht => by
        rw [Tryz.params4] at ht
        have h3 : t = 22 ∨ t = 28 := by
          rcases j with _ | _ | j
          · exact .inl (by simpa using ht.symm)
          · exact .inr (by simpa using ht.symm)
          · simp at ht
        rcases h3 with rfl | rfl
        · exact (show Tryz.prog.wantsStandIn 22 = false by kernel_rfl)
        · exact (show Tryz.prog.wantsStandIn 28 = false by kernel_rfl)⟩)
    (by kernel_rfl)
#print axioms proved
end Go.Proofs.YtjmcgdhekjkjfaaGreatDoor.manifestSigns
