/- The law ManifestDecodes, reckoned by the machine over values, hands back true: for all bytes. -/
import Derived.Test.YtjmcgdhekjkjfaaDoorSG
import Derived.Test.YtjmcgdhekjkjfaaDoorSH
import Derived.Test.YtjmcgdhekjkjfaaDoorRows
import Derived.WalkKit
import Derived.ProofKit
import Derived.OpenShut
import Derived.ShutString
import Derived.ChangeOld
import Derived.ChangeSame
import Derived.ChangeVars
import Derived.JoinedOf
import Derived.Below
import Derived.SizedLaws
import Derived.LaidLaws
import Derived.LaidHandle
import Derived.Stop.Joined
set_option linter.unusedSimpArgs false
set_option linter.unusedVariables false
namespace Go.Proofs.YtjmcgdhekjkjfaaDoor
open Go Go.VM
set_option maxRecDepth 100000
set_option maxHeartbeats 8000000

theorem up20_0 : callN (envG gErr) 200 60 18 [] = some ⟨[.d (.bool true)], []⟩ := by kernel_rfl
theorem up20 (F n : Nat) (hf : 200 ≤ F) (hn : 60 ≤ n) : callN (envG gErr) F n 18 [] = some ⟨[.d (.bool true)], []⟩ := callN_mono hf hn up20_0

theorem isBytes_len {x : Tlv} {n : Nat} {bn : Bool} {w : List Int} (h : x.isBytes n = true) (hd : x.bodyD = .nums .u8 bn w) : w.length = n := by
  obtain ⟨x1, x2, x3, x4, x5, x6, x7⟩ := x
  simp only [Tlv.bodyD] at hd
  injection hd with h1 h2 h3
  subst h3
  simp only [Tlv.isBytes, decide_eq_true_eq] at h
  exact h.2.2.2
theorem man_len {x : Tlv} {a b c d : Int} {n1 n2 n3 : Bool} {w1 w2 w3 : List Int} (h : x.man = some (manD a b c d (.nums .u8 n1 w1) (.nums .u8 n2 w2) (.nums .u8 n3 w3))) : w1.length = 12 ∧ w2.length = 145 ∧ w3.length = 48 := by
  unfold Tlv.man at h
  split at h
  · split at h
    · rename_i hc
      injection h with h
      unfold manD at h
      injection h with h
      simp only [List.cons.injEq, and_true] at h
      have hb := hc.2.2.2.2
      simp only [Bool.and_eq_true] at hb
      exact ⟨isBytes_len hb.1.1 h.2.2.2.2.1, isBytes_len hb.1.2 h.2.2.2.2.2.1, isBytes_len hb.2 h.2.2.2.2.2.2⟩
    · cases h
  · cases h

theorem parseB_bad' {b : List Int} {c p : Int} (h : parseB b = .bad c p) : (p = -1 ∧ c = 2) ∨ 0 ≤ p ∧ 1 ≤ c ∧ c ≤ 9 := by
  unfold parseB at h
  split at h
  · injection h with h1 h2; exact .inl ⟨h2.symm, h1.symm⟩
  · split at h
    · rename_i h1; injection h with h2 h3; subst h2; subst h3; exact .inr (elemB_place h1)
    · split at h
      · injection h with h2 h3; omega
      · cases h

theorem d_law (F : Nat) (hF : 1048580 < F) (hF2 : F ≤ 140737488355328) (n : Nat) (b : List Int) (nl : Bool) (hnl : nl = true → b = []) (hb : ∀ c ∈ b, 0 ≤ c ∧ c < 256) :
    callN (envG gErr) F (n + 70) 5 [.d (.nums .u8 nl b)] = some ⟨[.d (.bool true)], []⟩ := by
  have hu := up20 F (n + 69) (by omega) (by omega)
  have hp : callN (envG gErr) F (n + 69) _ _ = _ := t_Decode (G := gErr) F hF (n + 39) b nl hnl hb
  have hr : callN (envG gErr) F (n + 69) _ _ = _ := t_rParse (G := gErr) F hF (n + 49) b nl hnl hb
  have ht : ∀ c p, _ → callN (envG gErr) F (n + 69) _ _ = _ := fun c p h => t_told20 (G := gErr) rfl F (n + 67) (by omega) c p h
  have hz : callN (envG gErr) F (n + 69) _ _ = _ := t_same20 (G := gErr) F (n + 68) 0 0 0 0 0 0 0 0 true true true true true true [] [] [] [] [] [] (by simp) (by simp) (by simp) (by simp) (by simp) (by simp)
  have hs : ∀ (a b c d : Int) (n1 n2 n3 : Bool) (x y z : List Int), x.length ≤ 140737488355328 → y.length ≤ 140737488355328 → z.length ≤ 140737488355328 → callN (envG gErr) F (n + 69) _ _ = _ := fun a b c d n1 n2 n3 x y z l1 l2 l3 => t_same20 (G := gErr) F (n + 68) a b c d a b c d n1 n2 n3 n1 n2 n3 x y z x y z l1 l2 l3 l1 l2 l3
  have hk : ∀ x, parseB b = .ok x → ∀ y ∈ x.kids, y.plainOk := fun x hx y hy => by
    have h := parseB_ok hb hx
    have h2 := parseB_nil hx
    obtain ⟨x1, x2, x3, x4, x5, x6, x7⟩ := x
    simp only [Tlv.kids] at hy
    have h3 := h.2.2.2.2.2
    simp only [Tlv.weight] at h3
    have h4 := weight_mem hy
    exact plainOk_of (W := 1048576) (nilOk_mem h2.2.2 hy) (bytesOk_mem h.2.2.2.2.1.2 hy) (by omega) (by omega)
  have hbad : ∀ c p, parseB b = .bad c p → _ := fun c p h => parseB_bad' h
  rw [callN_run (fn := Tryd.f5) rfl rfl rfl (by simp [Tryd.ntmps5])]
  generalize hC : (envG gErr).ctx 5 (callN (envG gErr) F (n+69)) (callP (envG gErr) F (n+69)) = C
  have htt : C.tt = (envG gErr).tt := by rw [← hC]; rfl
  have hlin : C.lin = [] := by rw [← hC]; rfl
  have hreg : C.reg = reg5 := by rw [← hC]; rfl
  have hcall : C.call = callN (envG gErr) F (n+69) := by rw [← hC]; rfl
  have hcallP : C.callP = callP (envG gErr) F (n+69) := by rw [← hC]; rfl
  clear hC
  generalize hpb : parseB b = r at *
  by_cases c1 : 50000 < b.length ∧ b.length ≤ 1048576
  · have f1 : (50000 : Int) < b.length := by omega
    have f2 : (b.length : Int) ≤ 1048576 := by omega
    have f2' : ¬ (1048576 : Int) < b.length := by omega
    simp [htt, hlin, hreg, reg5, hcall, hcallP, hu, f1, f2, f2']
  · have hsk : ∀ (P : Prop), (((50000 : Int) < b.length → (1048576 : Int) < b.length ∧ ¬ (b.length : Int) ≤ 1048576 → P) → (¬ (50000 : Int) < b.length → P) → P) := fun P h1 h2 => by
      by_cases g : (50000 : Int) < b.length
      · exact h1 g (by omega)
      · exact h2 g
    cases r with
    | bad c p =>
      have hq := hbad c p rfl
      have ht' := ht c p hq
      clear hk hbad ht hs
      simp only [decodeV, rparseV, zeroT, Tlv.cells, Tlv.cellsL] at hp hr
      have hc0 : ¬ c = 0 := by omega
      have hne : ∃ t x, atD c p = .ifc t x := by
        unfold atD; split
        · exact ⟨_, _, rfl⟩
        · exact ⟨_, _, rfl⟩
      obtain ⟨t, x, hne⟩ := hne
      rw [hne] at hp ht'
      unfold zeroMD at hp
      unfold manD at hz
      simp at hz
      refine hsk _ (fun f1 f2 => ?_) (fun f1 => ?_)
      · simp [htt, hlin, hreg, reg5, hcall, hcallP, hu, hp, hr, hz, ht', hc0, f1, f2.1, f2.2]
      · simp [htt, hlin, hreg, reg5, hcall, hcallP, hu, hp, hr, hz, ht', hc0, f1]
    | ok x =>
      obtain ⟨a, b', c, d, n1, w1, n2, w2, n3, w3, hrd, hm⟩ := t_read (G := gErr) F hF (n + 59) x (hk x rfl)
      have hrd' : callN (envG gErr) F (n + 69) _ _ = _ := hrd
      clear hk hbad ht hrd
      simp only [decodeV, rparseV] at hp hr
      obtain ⟨x1, x2, x3, x4, x5, x6, x7⟩ := x
      simp only [Tlv.cells] at hr hrd'
      cases hmn : Tlv.man (.mk x1 x2 x3 x4 x5 x6 x7) with
      | none =>
        rw [hmn] at hp hrd'
        simp only [Option.isSome_none] at hrd'
        unfold zeroMD err at hp
        unfold manD at hz hrd'
        simp at hz
        refine hsk _ (fun f1 f2 => ?_) (fun f1 => ?_)
        · simp [htt, hlin, hreg, reg5, hcall, hcallP, hu, hp, hr, hz, hrd', f1, f2.1, f2.2]
        · simp [htt, hlin, hreg, reg5, hcall, hcallP, hu, hp, hr, hz, hrd', f1]
      | some m =>
        have e := hm m hmn
        subst e
        have hl := man_len hmn
        have hs' := hs a b' c d n1 n2 n3 w1 w2 w3 (by omega) (by omega) (by omega)
        rw [hmn] at hp hrd'
        simp only [Option.isSome_some] at hrd'
        unfold manD at hp hrd' hs'
        simp at hs'
        refine hsk _ (fun f1 f2 => ?_) (fun f1 => ?_)
        · simp [htt, hlin, hreg, reg5, hcall, hcallP, hu, hp, hr, hs', hrd', f1, f2.1, f2.2]
        · simp [htt, hlin, hreg, reg5, hcall, hcallP, hu, hp, hr, hs', hrd', f1]
end Go.Proofs.YtjmcgdhekjkjfaaDoor

/- What is laid, as a world tells it. -/
namespace Go.Proofs.YtjmcgdhekjkjfaaDoor
open Go.ChangeShapes Go.WideShapes Go.ChangeAt Go.RowKit Go.VM
set_option linter.unusedVariables false

theorem own : ownKnob Tryd.prog.godebug = none := by kernel_rfl
theorem laidOut : laidOutB Tryd.prog = true := by kernel_rfl
theorem As.et : Tryd.prog.globalNamed "errors.errorType" = some 1 := by kernel_rfl
theorem As.rt : (Tryd.prog.cutTypes.find? (·.1 == "internal/reflectlite.rtype")).map (·.2) = some 189 := by kernel_rfl
theorem As.oneRow : ((List.range 242).filter fun t => Tryd.prog.rowNamed t [101, 114, 114, 111, 114]) = [28] := by kernel_rfl
theorem As.size : Tryd.prog.types.size = 242 := by kernel_rfl

def errLaid {H : Type} : List (String × DataW H) := [("errors.errorType", Rows.laid_errors_errorType)]

theorem handle_of_laid {W : World} (h : laidMetH Tryd.prog errLaid W) : W.cell? ⟨1, 0, none⟩ = some (.iface 189 (.agg #[.pointer (some ⟨8, 28, none⟩)])) := by
  have h' : laidMet Tryd.prog [] W ∧ handlesMet Tryd.prog errLaid W := h
  obtain ⟨name, u, ty, e1, e2, e3, e4, e5⟩ := h'.2 _ (List.mem_singleton.2 rfl)
  have en : name = [101, 114, 114, 111, 114] := (Option.some.inj e1).symm
  subst en
  obtain rfl := Option.some.inj (As.rt.symm.trans e2)
  have hm : ty ∈ (List.range 242).filter fun t => Tryd.prog.rowNamed t [101, 114, 114, 111, 114] := List.mem_filter.2 ⟨List.mem_range.2 (by rw [← As.size]; exact e3), e4⟩
  rw [As.oneRow] at hm
  obtain rfl := List.mem_singleton.1 hm
  have hh : typeHandle Tryd.prog 28 = .pointer (some ⟨8, 28, none⟩) := by kernel_rfl
  rw [hh] at e5
  simpa using World.var?_cell As.et e5 0

/-- A world that meets the condition. -/
noncomputable def laidWorld (os : Os) : World :=
  let w0 := World.holding Tryd.prog os ⟨#[], #[], []⟩
  { w0 with heap := w0.heap.modify 1 fun
      | .cells _ t frozen => .cells #[.iface 189 (.agg #[.pointer (some ⟨8, 28, none⟩)])] t frozen
      | o => o }
theorem laidWorld_met (os : Os) (args : Array Value) : laidMetH Tryd.prog errLaid ((laidWorld os).forCall (fun _ _ => 0) ⟨#[], args, []⟩).memory :=
  laidMetH_of_parts (laidMet_nil _ _) (by kernel_rfl)

theorem rep_err {W : World} (h : W.cell? ⟨1, 0, none⟩ = some (.iface 189 (.agg #[.pointer (some ⟨8, 28, none⟩)]))) :
    ∀ g cs, gErr.glob g = some cs → RepC W noOwn g 0 cs := by
  intro g cs hg
  simp only [gErr] at hg
  split at hg
  · rename_i hb
    have hb := Nat.eq_of_beq_eq_true hb
    subst hb
    cases hg
    intro j x hx
    match j, hx with
    | 0, hx =>
      cases hx
      refine ⟨_, ⟨h, fun ow n h => (by cases h), rfl⟩, .ifc _ _ _ (.agg _ _ rfl (fun j hj => ?_) (fun j x hx => ?_))⟩
      · match j, hj with
        | 0, _ => rfl
      · match j, hx with
        | 0, hx => cases hx; exact .rt _ _
  · cases hg
end Go.Proofs.YtjmcgdhekjkjfaaDoor
