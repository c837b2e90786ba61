/- Numbers as digits: plain. -/
import Derived.Test.YtjmcgdhekjkjfaaDoorSG
import Derived.Test.YtjmcgdhekjkjfaaDoorSC
import Derived.Test.YtjmcgdhekjkjfaaDoorVMS
set_option linter.unusedSimpArgs false
set_option linter.unusedVariables false
namespace Go.Proofs.YtjmcgdhekjkjfaaDoor
open Go Go.VM
set_option maxRecDepth 100000
def vL : List Int → Int
  | [] => 0
  | x :: t => x + 4294967296 * vL t
def wL : List Int → Int
  | [] => 0
  | x :: t => x + 18446744073709551616 * wL t
def In32 (l : List Int) : Prop := ∀ x ∈ l, 0 ≤ x ∧ x < 4294967296
def In64 (l : List Int) : Prop := ∀ x ∈ l, 0 ≤ x ∧ x < 18446744073709551616
def halves : List Int → List Int
  | [] => []
  | a :: t => a % 4294967296 :: a / 4294967296 :: halves t
theorem vL_halves : ∀ l, vL (halves l) = wL l
  | [] => rfl
  | a :: t => by
    simp only [halves, vL, wL, vL_halves t]
    omega
theorem halves_in : ∀ l, In64 l → In32 (halves l)
  | [], _ => fun x hx => by cases hx
  | a :: t, h => fun x hx => by
    have ha := h a (List.mem_cons_self ..)
    simp only [halves, List.mem_cons] at hx
    rcases hx with rfl | rfl | hx
    · omega
    · omega
    · exact halves_in t (fun y hy => h y (List.mem_cons_of_mem _ hy)) x hx
theorem vL_append : ∀ a b, vL (a ++ b) = vL a + 4294967296 ^ a.length * vL b
  | [], b => by simp [vL]
  | x :: t, b => by
    simp only [List.cons_append, vL, vL_append t b, List.length_cons, Int.pow_succ]
    rw [Int.mul_add, ← Int.mul_assoc, Int.mul_comm (4294967296 ^ t.length) 4294967296]
    omega
theorem vL_nonneg : ∀ l, In32 l → 0 ≤ vL l
  | [], _ => by simp [vL]
  | a :: t, h => by
    have h1 := vL_nonneg t (fun y hy => h y (List.mem_cons_of_mem _ hy))
    have h2 := h a (List.mem_cons_self ..)
    simp only [vL]; omega
theorem vL_lt : ∀ l, In32 l → vL l < 4294967296 ^ l.length
  | [], _ => by simp [vL]
  | a :: t, h => by
    have h1 := vL_lt t (fun y hy => h y (List.mem_cons_of_mem _ hy))
    have h2 := h a (List.mem_cons_self ..)
    simp only [vL, List.length_cons, Int.pow_succ]; omega
theorem cutL_max (xs : List Int) : ∀ i, ∀ j, cutL xs i ≤ j → j < i → xs.getD j 0 = 0
  | 0, j, _, h => by omega
  | i + 1, j, h1, h2 => by
    unfold cutL at h1
    split at h1
    · rename_i h0
      have h0 := of_decide_eq_true h0
      rcases Nat.lt_or_ge j i with h3 | h3
      · exact cutL_max xs i j h1 h3
      · have : j = i := by omega
        subst this; exact h0
    · omega
theorem cutL_top (xs : List Int) : ∀ i, 0 < cutL xs i → xs.getD (cutL xs i - 1) 0 ≠ 0
  | 0, h => by simp [cutL] at h
  | i + 1, h => by
    unfold cutL at h ⊢
    split
    · rename_i h0
      rw [h0] at h
      exact cutL_top xs i h
    · rename_i h0
      have h0 := of_decide_eq_false h0
      simpa using h0
theorem vL_zeros : ∀ l : List Int, (∀ x ∈ l, x = 0) → vL l = 0
  | [], _ => rfl
  | a :: t, h => by
    simp only [vL, vL_zeros t (fun x hx => h x (List.mem_cons_of_mem _ hx)), h a (List.mem_cons_self ..)]
    rfl
theorem vL_trim (l : List Int) : vL (trimL l) = vL l := by
  have h : vL (l.take (cutL l l.length) ++ l.drop (cutL l l.length)) = vL l := by rw [List.take_append_drop]
  rw [vL_append] at h
  have h2 : vL (l.drop (cutL l l.length)) = 0 := by
    refine vL_zeros _ fun x hx => ?_
    obtain ⟨j, hj, rfl⟩ := List.getElem_of_mem hx
    simp only [List.length_drop] at hj
    have := cutL_max l l.length (cutL l l.length + j) (by omega) (by omega)
    simp only [List.getElem_drop]
    rw [List.getD_eq_getElem?_getD, List.getElem?_eq_getElem (by omega)] at this
    simpa using this
  rw [h2] at h
  unfold trimL
  omega
theorem trimL_in {l : List Int} (h : In32 l) : In32 (trimL l) := fun x hx => h x (List.mem_of_mem_take hx)
def Canon (l : List Int) : Prop := In32 l ∧ ∀ x, l.getLast? = some x → x ≠ 0
theorem trimL_len (l : List Int) : (trimL l).length = cutL l l.length := by
  have := cutL_le l l.length
  unfold trimL
  simp only [List.length_take]; omega
theorem trimL_canon {l : List Int} (h : In32 l) : Canon (trimL l) := by
  refine ⟨trimL_in h, fun x hx => ?_⟩
  have hl := trimL_len l
  rw [List.getLast?_eq_getElem?, hl] at hx
  have h0 : 0 < cutL l l.length := by
    rcases Nat.eq_zero_or_pos (cutL l l.length) with h1 | h1
    · rw [h1] at hx hl
      rw [List.length_eq_zero_iff.1 hl] at hx
      simp at hx
    · exact h1
  have h1 := cutL_top l l.length h0
  have h2 := cutL_le l l.length
  unfold trimL at hx
  rw [List.getElem?_take_of_lt (by omega)] at hx
  rw [List.getD_eq_getElem?_getD, hx] at h1
  simpa using h1
theorem canon_ge {l : List Int} (h : Canon l) (hl : l ≠ []) : 4294967296 ^ (l.length - 1) ≤ vL l := by
  obtain ⟨t, x, rfl⟩ : ∃ t x, l = t ++ [x] := ⟨_, _, (List.dropLast_concat_getLast hl).symm⟩
  have h1 := h.1 x (by simp)
  have h2 := h.2 x (by simp)
  have h3 := vL_nonneg t (fun y hy => h.1 y (by simp [hy]))
  rw [vL_append]
  simp only [List.length_append, List.length_cons, List.length_nil, vL, Nat.add_zero, Nat.zero_add, Nat.add_sub_cancel, Int.mul_zero, Int.add_zero]
  have h4 : (0 : Int) ≤ 4294967296 ^ t.length := Int.pow_nonneg (by omega)
  have h5 : (4294967296 : Int) ^ t.length * 1 ≤ 4294967296 ^ t.length * x := Int.mul_le_mul_of_nonneg_left (by omega) h4
  omega
theorem powB_le {i j : Nat} (h : i ≤ j) : (4294967296 : Int) ^ i ≤ 4294967296 ^ j := by
  obtain ⟨d, rfl⟩ := Nat.exists_eq_add_of_le h
  have h1 : (0 : Int) < 4294967296 ^ d := Int.pow_pos (by omega)
  have h2 : (0 : Int) ≤ 4294967296 ^ i := Int.pow_nonneg (by omega)
  have h3 : (4294967296 : Int) ^ i * 1 ≤ 4294967296 ^ i * 4294967296 ^ d := Int.mul_le_mul_of_nonneg_left (by omega) h2
  rw [Int.pow_add]
  omega
theorem canon_len {a b : List Int} (ha : Canon a) (hb : Canon b) (h : a.length < b.length) : vL a < vL b := by
  have h1 := vL_lt a ha.1
  have h2 := canon_ge hb (fun h0 => by rw [h0] at h; simp at h)
  have h3 : (4294967296 : Int) ^ a.length ≤ 4294967296 ^ (b.length - 1) := by
    exact powB_le (by omega)
  omega
def cmpT (a b : List Int) : Nat → Int
  | 0 => 0
  | i + 1 => match decide (a.getD i 0 < b.getD i 0) with
    | true => -1
    | false => match decide (b.getD i 0 < a.getD i 0) with
      | true => 1
      | false => cmpT a b i
def cmpL (a b : List Int) : Int :=
  match decide (a.length < b.length), decide (b.length < a.length) with
  | true, _ => -1
  | _, true => 1
  | _, _ => cmpT a b a.length
theorem take_succ_getD (a : List Int) (i : Nat) (h : i < a.length) : a.take (i + 1) = a.take i ++ [a.getD i 0] := by
  rw [List.take_add_one, List.getD_eq_getElem?_getD, List.getElem?_eq_getElem h]; rfl
theorem cmpT_lt (a b : List Int) (ha : In32 a) (hb : In32 b) : ∀ i, i ≤ a.length → i ≤ b.length →
    (cmpT a b i = -1 ∧ vL (a.take i) < vL (b.take i)) ∨ (cmpT a b i = 1 ∧ vL (b.take i) < vL (a.take i)) ∨ (cmpT a b i = 0 ∧ vL (a.take i) = vL (b.take i))
  | 0, _, _ => .inr (.inr ⟨rfl, rfl⟩)
  | i + 1, h1, h2 => by
    have ih := cmpT_lt a b ha hb i (by omega) (by omega)
    rw [take_succ_getD a i (by omega), take_succ_getD b i (by omega), vL_append, vL_append]
    have e1 : (a.take i).length = i := by simp; omega
    have e2 : (b.take i).length = i := by simp; omega
    have l1 := vL_lt (a.take i) (fun x hx => ha x (List.mem_of_mem_take hx))
    have l2 := vL_lt (b.take i) (fun x hx => hb x (List.mem_of_mem_take hx))
    have n1 := vL_nonneg (a.take i) (fun x hx => ha x (List.mem_of_mem_take hx))
    have n2 := vL_nonneg (b.take i) (fun x hx => hb x (List.mem_of_mem_take hx))
    rw [e1] at l1 ⊢; rw [e2] at l2 ⊢
    unfold cmpT
    simp only [vL, Int.mul_zero, Int.add_zero]
    generalize a.getD i 0 = x at *
    generalize b.getD i 0 = y at *
    generalize vL (a.take i) = u at *
    generalize vL (b.take i) = v at *
    have hP : (0 : Int) ≤ 4294967296 ^ i := Int.pow_nonneg (by omega)
    generalize (4294967296 : Int) ^ i = P at *
    by_cases hxy : x < y
    · left
      refine ⟨by simp [hxy], ?_⟩
      have := Int.mul_le_mul_of_nonneg_left (show x + 1 ≤ y by omega) hP
      rw [Int.mul_add] at this
      omega
    · by_cases hyx : y < x
      · right; left
        refine ⟨by simp [hxy, hyx], ?_⟩
        have := Int.mul_le_mul_of_nonneg_left (show y + 1 ≤ x by omega) hP
        rw [Int.mul_add] at this
        omega
      · have : x = y := by omega
        subst this
        simp only [hxy, decide_false]
        omega
theorem cmpL_lt {a b : List Int} (ha : Canon a) (hb : Canon b) : (cmpL a b < 0 ↔ vL a < vL b) := by
  unfold cmpL
  by_cases h1 : a.length < b.length
  · have := canon_len ha hb h1
    simp only [h1, decide_true]
    omega
  · by_cases h2 : b.length < a.length
    · have := canon_len hb ha h2
      simp only [h1, h2, decide_true, decide_false]
      omega
    · have h3 := cmpT_lt a b ha.1 hb.1 a.length (by omega) (by omega)
      rw [List.take_length, List.take_of_length_le (show b.length ≤ a.length by omega)] at h3
      simp only [h1, h2, decide_false]
      omega
theorem canon_nil {a : List Int} (ha : Canon a) : (a = [] ↔ vL a = 0) := by
  constructor
  · rintro rfl; rfl
  · intro h
    rcases a with _ | ⟨x, t⟩
    · rfl
    · have := canon_ge ha (by simp)
      have h2 : (0 : Int) < 4294967296 ^ ((x :: t).length - 1) := Int.pow_pos (by omega)
      omega
theorem wL_zero : ∀ {l : List Int}, In64 l → (wL l = 0 ↔ ∀ x ∈ l, x = 0)
  | [], _ => by simp [wL]
  | a :: t, h => by
    have h1 := h a (List.mem_cons_self ..)
    have ht : In64 t := fun y hy => h y (List.mem_cons_of_mem _ hy)
    have ih := wL_zero ht
    have h2 : 0 ≤ wL t := by
      have := vL_nonneg _ (halves_in t ht)
      rwa [vL_halves] at this
    simp only [wL, List.mem_cons, forall_eq_or_imp, ← ih]
    omega
end Go.Proofs.YtjmcgdhekjkjfaaDoor
set_option linter.unusedSimpArgs false
set_option linter.unusedVariables false
namespace Go.Proofs.YtjmcgdhekjkjfaaDoor
open Go Go.VM
variable {G : GE}
set_option maxRecDepth 100000
set_option maxHeartbeats 4000000
def AddB (G : GE) : Prop := ∀ args, G.ext 145 args = addX args
theorem u_Add64 (hB : AddB G) (F n : Nat) (x y c : Int) (h0 : 0 ≤ c) (h1 : c ≤ 1) : callN (envG G) F (n+1) 145 [.d (.int .u64 x), .d (.int .u64 y), .d (.int .u64 c)] = some ⟨[.d (.int .u64 ((x + y + c) % 18446744073709551616)), .d (.int .u64 ((x + y + c) / 18446744073709551616))], []⟩ := by
  rw [callN_succ]
  have : (envG G).ext 145 [.d (.int .u64 x), .d (.int .u64 y), .d (.int .u64 c)] = some ⟨[.d (.int .u64 ((x + y + c) % 18446744073709551616)), .d (.int .u64 ((x + y + c) / 18446744073709551616))], []⟩ := by
    show G.ext _ _ = _
    rw [hB]
    simp [addX, h0, h1]
  rw [this]
def addC : List Int → List Int → Int → List Int × Int
  | a :: l, b :: m, c => ((a + b + c) % 18446744073709551616 :: (addC l m ((a + b + c) / 18446744073709551616)).1, (addC l m ((a + b + c) / 18446744073709551616)).2)
  | _, _, c => ([], c)
theorem cy_01 {x y c : Int} (hx : 0 ≤ x ∧ x < 18446744073709551616) (hy : 0 ≤ y ∧ y < 18446744073709551616) (h0 : 0 ≤ c) (h1 : c ≤ 1) : 0 ≤ (x + y + c) / 18446744073709551616 ∧ (x + y + c) / 18446744073709551616 ≤ 1 := by omega
theorem t_lAdd (hB : AddB G) (hn : ∀ args, G.ext 124 args = none) (F n : Nat) (hF : 8 ≤ F) (a0 a1 a2 a3 a4 a5 b0 b1 b2 b3 b4 b5 : Int) (ha : In64 [a0, a1, a2, a3, a4, a5]) (hb : In64 [b0, b1, b2, b3, b4, b5]) :
    callN (envG G) F (n+2) 124 [.d (limbD [a0, a1, a2, a3, a4, a5]), .d (limbD [b0, b1, b2, b3, b4, b5])] = some ⟨[.d (limbD (addC [a0, a1, a2, a3, a4, a5] [b0, b1, b2, b3, b4, b5] 0).1), .d (.int .u64 (addC [a0, a1, a2, a3, a4, a5] [b0, b1, b2, b3, b4, b5] 0).2)], []⟩ := by
  rw [callN_run (fn := Tryd.f124) (hn _) rfl rfl (by simp [Tryd.ntmps124])]
  generalize hC : (envG G).ctx 124 (callN (envG G) F (n+1)) (callP (envG G) F (n+1)) = C
  have htt : C.tt = (envG G).tt := by rw [← hC]; rfl
  have hlin : C.lin = [] := by rw [← hC]; rfl
  have hreg : C.reg = reg124 := by rw [← hC]; rfl
  have hcall : C.call = callN (envG G) F (n+1) := by rw [← hC]; rfl
  have hcallP : C.callP = callP (envG G) F (n+1) := by rw [← hC]; rfl
  have hlv_4 : C.live 4 = [2, 3, 4, 6, 7, 9] := by rw [← hC]; rfl
  have hlv_100004 : C.live 100004 = [4, 5, 6, 7] := by rw [← hC]; rfl
  have hlv_200006 : C.live 200006 = [] := by rw [← hC]; rfl
  have hlv_250006 : C.live 250006 = [] := by rw [← hC]; rfl
  obtain ⟨F, rfl⟩ : ∃ j, F = j + 8 := ⟨F - 8, by omega⟩
  have k := fun x y c h0 h1 => u_Add64 (G := G) hB (F+8) n x y c h0 h1
  simp only [In64, List.mem_cons, List.not_mem_nil, or_false, forall_eq_or_imp, forall_eq] at ha hb
  obtain ⟨ha0, ha1, ha2, ha3, ha4, ha5⟩ := ha
  obtain ⟨hb0, hb1, hb2, hb3, hb4, hb5⟩ := hb
  have hc1 := cy_01 ha0 hb0 (c := 0) (by omega) (by omega)
  have hc2 := cy_01 ha1 hb1 hc1.1 hc1.2
  have hc3 := cy_01 ha2 hb2 hc2.1 hc2.2
  have hc4 := cy_01 ha3 hb3 hc3.1 hc3.2
  have hc5 := cy_01 ha4 hb4 hc4.1 hc4.2
  have k0 := k a0 b0 0 (by omega) (by omega)
  have k1 := k a1 b1 _ hc1.1 hc1.2
  have k2 := k a2 b2 _ hc2.1 hc2.2
  have k3 := k a3 b3 _ hc3.1 hc3.2
  have k4 := k a4 b4 _ hc4.1 hc4.2
  have k5 := k a5 b5 _ hc5.1 hc5.2
  simp only [addC, limbD, List.map]
  clear k hc1 hc2 hc3 hc4 hc5 ha0 ha1 ha2 ha3 ha4 ha5 hb0 hb1 hb2 hb3 hb4 hb5
  generalize (a5 + b5 + _) / 18446744073709551616 = c6 at *
  generalize (a4 + b4 + _) / 18446744073709551616 = c5 at *
  generalize (a3 + b3 + _) / 18446744073709551616 = c4 at *
  generalize (a2 + b2 + _) / 18446744073709551616 = c3 at *
  generalize (a1 + b1 + _) / 18446744073709551616 = c2 at *
  generalize hz : (a0 + b0 + 0) / 18446744073709551616 = c1 at *
  simp only [Int.add_zero] at hz k0 ⊢
  simp [htt, hlin, hreg, reg124, hcall, hcallP, hlv_4, hlv_100004, hlv_200006, hlv_250006, ev_loop, iter_eq, k0, k1, k2, k3, k4, k5, hz]
end Go.Proofs.YtjmcgdhekjkjfaaDoor
set_option linter.unusedSimpArgs false
set_option linter.unusedVariables false
namespace Go.Proofs.YtjmcgdhekjkjfaaDoor
open Go Go.VM
set_option maxRecDepth 100000
set_option maxHeartbeats 4000000
def toldE (f : FuncId) (args : List V) : Option Ret := match Nat.beq f 145 with
  | true => addX args
  | false => match Nat.beq f 128 with
    | true => subX args
    | false => none
def gTold : GE := { glob := fun _ => none, ext := toldE }
theorem gTold_ok : EnvOk Tryd.prog (envG gTold) := envOk gTold (fun f args r h => by
  simp only [gTold, toldE] at h
  split at h
  · rename_i hf
    have hf := Nat.eq_of_beq_eq_true hf
    subst hf
    exact add_sound args r h
  · split at h
    · rename_i hf
      have hf := Nat.eq_of_beq_eq_true hf
      subst hf
      exact sub_sound args r h
    · cases h)
def lAddX : List V → Option Ret
  | [.d (.agg [.int .u64 a0, .int .u64 a1, .int .u64 a2, .int .u64 a3, .int .u64 a4, .int .u64 a5]), .d (.agg [.int .u64 b0, .int .u64 b1, .int .u64 b2, .int .u64 b3, .int .u64 b4, .int .u64 b5])] =>
    some ⟨[.d (limbD (addC [a0, a1, a2, a3, a4, a5] [b0, b1, b2, b3, b4, b5] 0).1), .d (.int .u64 (addC [a0, a1, a2, a3, a4, a5] [b0, b1, b2, b3, b4, b5] 0).2)], []⟩
  | _ => none
def lSubX : List V → Option Ret
  | [.d (.agg [.int .u64 a0, .int .u64 a1, .int .u64 a2, .int .u64 a3, .int .u64 a4, .int .u64 a5]), .d (.agg [.int .u64 b0, .int .u64 b1, .int .u64 b2, .int .u64 b3, .int .u64 b4, .int .u64 b5])] =>
    some ⟨[.d (limbD (subC [a0, a1, a2, a3, a4, a5] [b0, b1, b2, b3, b4, b5] 0).1), .d (.int .u64 (subC [a0, a1, a2, a3, a4, a5] [b0, b1, b2, b3, b4, b5] 0).2)], []⟩
  | _ => none
theorem in64_given {w : World} {own : Own} {v : Value} {l : List Int} (h : RepV w own (fun _ => none) v (.d (.agg (l.map (.int .u64))))) : In64 l := by
  intro x hx
  obtain ⟨j, hj, rfl⟩ := List.getElem_of_mem hx
  have h := inv_d h
  cases h with
  | agg arr cs hs h1 hr =>
    have := hr j (.int .u64 l[j]) (by simp [hj])
    have := inv_int (w := w) (own := own) (β := fun _ => none) (.d _ _ this)
    exact u64_ok this.2
theorem told_of {glob : Nat → Option (List D)} {f : FuncId} {args : List V} {r : Ret} {fn : Func} (hf : Tryd.prog.funcs[f]? = some fn) (hname : (fn.name == "runtime.NumGoroutine") = false) (hb : fn.body.isNone = false) (he : (envG gTold).ext f args = none)
    (h : ∀ cargs w own, Given w own cargs args → ∃ F n, callN (envG gTold) F n f args = some r) : Sound Tryd.prog glob f args r := by
  refine .inl ⟨⟨fn, hf, hname, hb⟩, fun cargs w own G gl hp bl => ?_⟩
  obtain ⟨F, n, hk⟩ := h cargs w own G
  exact (callN_soundB gTold_ok hk he).2 cargs w own G (fun g cs h => by cases h) hp bl
theorem lAdd_sound {glob : Nat → Option (List D)} (args : List V) (r : Ret) (h : lAddX args = some r) : Sound Tryd.prog glob 124 args r := by
  unfold lAddX at h
  split at h
  rotate_left
  · cases h
  rename_i a0 a1 a2 a3 a4 a5 b0 b1 b2 b3 b4 b5
  cases h
  refine told_of Tryd.func124 (by kernel_rfl) (by kernel_rfl) rfl fun cargs w own G => ⟨100, 2, ?_⟩
  exact t_lAdd (G := gTold) (fun _ => rfl) (fun _ => rfl) 100 0 (by omega) a0 a1 a2 a3 a4 a5 b0 b1 b2 b3 b4 b5 (in64_given (l := [a0, a1, a2, a3, a4, a5]) (G.rep 0 _ rfl)) (in64_given (l := [b0, b1, b2, b3, b4, b5]) (G.rep 1 _ rfl))
theorem lSub_sound {glob : Nat → Option (List D)} (args : List V) (r : Ret) (h : lSubX args = some r) : Sound Tryd.prog glob 94 args r := by
  unfold lSubX at h
  split at h
  rotate_left
  · cases h
  rename_i a0 a1 a2 a3 a4 a5 b0 b1 b2 b3 b4 b5
  cases h
  refine told_of Tryd.func94 (by kernel_rfl) (by kernel_rfl) rfl fun cargs w own G => ⟨100, 2, ?_⟩
  exact t_lSub (G := gTold) (fun _ => rfl) (fun _ => rfl) 100 0 (by omega) a0 a1 a2 a3 a4 a5 b0 b1 b2 b3 b4 b5
end Go.Proofs.YtjmcgdhekjkjfaaDoor
set_option linter.unusedSimpArgs false
set_option linter.unusedVariables false
namespace Go.Proofs.YtjmcgdhekjkjfaaDoor
open Go Go.VM Go.RowKit
theorem i64_lit {c : Int} (h : 1 ≤ c ∧ c ≤ 21) : IntKind.i64.wrap c = c := wrap_ok (by simp; omega) (by simp; omega)
theorem code_calls {c : Int} (h : 1 ≤ c ∧ c ≤ 21) (w : World) :
    Calls Tryd.prog 15 #[.iface 36 (.int .i64 c)] w fun e w' => e = .returned (.int .i64 c) ∧ Below w.heap.size w w' := by
  have k := t_Code (G := gTold) 100 0 (by omega) c
  rw [if_pos h] at k
  have G : Given w noOwn #[.iface 36 (.int .i64 c)] [.d (err c)] := by
    refine ⟨rfl, fun j x hx => ?_⟩
    rcases j with _ | j
    · simp at hx; subst hx; exact .d _ _ (.ifc _ _ _ (.int _ _ (i64_lit h)))
    · simp at hx
  obtain ⟨_, hS⟩ := callN_soundB gTold_ok k rfl
  refine Calls.mono (hS _ w noOwn G (fun g cs h => by cases h) (fun b s h => by cases h) (fun b ow n h => by cases h)) ?_
  rintro e w' ⟨v, own', rfl, B⟩
  obtain ⟨vs, ⟨hs, hr⟩, hv, _⟩ := B.vals
  have h1 : vs.size = 1 := by simpa using hs
  rw [if_pos h1] at hv
  have := inv_int (hr 0 (.d (.int .i64 c)) rfl)
  exact ⟨by rw [hv, this.1], below_of_ext B.ext⟩
set_option maxRecDepth 100000 in
set_option maxHeartbeats 4000000 in
theorem same0_code {k q : Int} (hk : 1 ≤ k ∧ k ≤ 21) (hq : 1 ≤ q ∧ q ≤ 21) (w : World) (hg : w.cell? ⟨1, 0, none⟩ = some (.iface 189 (.agg #[.pointer (some ⟨8, 28, none⟩)]))) :
    Calls Tryd.prog 50 #[.iface 36 (.int .i64 k), .iface 36 (.int .i64 q)] w fun e w' => e = .returned (.bool (decide (k = q))) ∧ Below w.heap.size w w' := by
  have hlt : 1 < w.heap.size := by
    rcases Nat.lt_or_ge 1 w.heap.size with h | h0
    · exact h
    · simp [World.cell?, Array.getElem?_eq_none h0] at hg
  have hgA : (w.alloc (.cells #[.pointer none] 105)).cell? ⟨1, 0, none⟩ = some (.iface 189 (.agg #[.pointer (some ⟨8, 28, none⟩)])) := by
    rw [World.cell?_alloc_lt _ _ ⟨1, 0, none⟩ hlt]; exact hg
  have htA : (w.alloc (.cells #[.pointer none] 105)).cell? ⟨w.heap.size, 0, none⟩ = some (.pointer none) := by simp
  have hfA : (w.alloc (.cells #[.pointer none] 105)).frozen? ⟨w.heap.size, 0, none⟩ = false := by simp
  have hBA : Below w.heap.size w (((((w.alloc (.cells #[.pointer none] 105)).alloc (.cells #[.pointer (some ⟨w.heap.size, 0, none⟩)] 107)).alloc (.cells #[.pointer (some ⟨8, 107, none⟩), .pointer (some ⟨(w.alloc (.cells #[.pointer none] 105)).heap.size, 0, none⟩), .int .u64 150] 158)).alloc (.cells #[.pointer (some ⟨8, 107, none⟩), .pointer (some ⟨(w.alloc (.cells #[.pointer none] 105)).heap.size, 0, none⟩), .int .u64 150] 158))) :=
    ((((Below.refl _ _).alloc (Nat.le_refl _) _).alloc (by simp) _).alloc (by simp <;> omega) _).alloc (by simp <;> omega) _
  by_cases e : k = q
  · subst e
    rw [decide_eq_true rfl]
    have hb : (k == k) = true := beq_self_eq_true k
    have hpos : decide (k > 0) = true := decide_eq_true (by omega)
    go_enter Tryd.func50, Tryd.ntmps50
    go_wp2_with (first
      | (go_at_call 59; refine (as_miss _ _ (.pointer none) _ hgA htA hfA).mono ?_; rintro e w' ⟨rfl, rfl⟩)
      | (go_at_call 15; refine (code_calls hk _).mono ?_; rintro e w' ⟨rfl, hB1⟩))
    rename_i w1 h1 w2 h2
    go_ret
    have b1 := (((((Below.refl w.heap.size w).alloc (Nat.le_refl _) _).alloc (by simp) _).alloc (by simp <;> omega) _).alloc (by simp <;> omega) _).trans (h1.mono (by simp <;> omega))
    have b2 := b1.trans (h2.mono b1.size)
    exact ⟨rfl, b2.trans (hB1.mono b2.size)⟩
  · rw [decide_eq_false e]
    have hb : (k == q) = false := beq_eq_false_iff_ne.2 e
    go_enter Tryd.func50, Tryd.ntmps50
    go_wp2_with (first
      | (go_at_call 59; refine (as_miss _ _ (.pointer none) _ hgA htA hfA).mono ?_; rintro e w' ⟨rfl, rfl⟩)
      | (go_at_call 15; refine (code_calls (by assumption) _).mono ?_; rintro e w' ⟨rfl, hB1⟩))
    rename_i w1 h1
    go_ret
    have b1 := (((((Below.refl w.heap.size w).alloc (Nat.le_refl _) _).alloc (by simp) _).alloc (by simp <;> omega) _).alloc (by simp <;> omega) _).trans (h1.mono (by simp <;> omega))
    exact ⟨rfl, b1.trans (hB1.mono b1.size)⟩
def sameX : List V → Option Ret
  | [.d (.ifc t (.int .i64 k)), .d (.ifc u (.int .i64 q))] => match Nat.beq t 36 && Nat.beq u 36 && (decide (1 ≤ k) && decide (k ≤ 21)) && (decide (1 ≤ q) && decide (q ≤ 21)) with
    | true => some ⟨[.d (.bool (decide (k = q)))], []⟩
    | false => none
  | _ => none
theorem two' {l : Array Value} (h : l.size = 2) : ∃ a b, l = #[a, b] := by
  obtain ⟨l⟩ := l
  match l, h with
  | [a, b], _ => exact ⟨a, b, rfl⟩
theorem same_sound {glob : Nat → Option (List D)} (hgl : glob 1 = some errT) (args : List V) (r : Ret) (h : sameX args = some r) : Sound Tryd.prog glob 50 args r := by
  have hf : ∃ fn, Tryd.prog.funcs[(50 : Nat)]? = some fn ∧ (fn.name == "runtime.NumGoroutine") = false ∧ fn.body.isNone = false := ⟨_, Tryd.func50, by kernel_rfl, by kernel_rfl⟩
  unfold sameX at h
  split at h
  rotate_left
  · cases h
  rename_i t k u q
  split at h
  rotate_left
  · cases h
  rename_i hb
  simp only [Bool.and_eq_true, decide_eq_true_eq] at hb
  obtain ⟨⟨⟨h1, h2⟩, h3⟩, h4⟩ := hb
  have h1 := Nat.eq_of_beq_eq_true h1
  have h2 := Nat.eq_of_beq_eq_true h2
  subst h1; subst h2
  cases h
  refine sound_bool hf fun cargs w own G hg => ?_
  obtain ⟨v0, v1, rfl⟩ := two' (by simpa using G.size)
  have g0 := inv_d (G.rep 0 _ rfl)
  have g1 := inv_d (G.rep 1 _ rfl)
  simp at g0 g1
  cases g0 with
  | ifc t v x g0 =>
    cases g0
    cases g1 with
    | ifc t v x g1 =>
      cases g1
      exact same0_code h3 h4 w (errT_cell (hg _ _ hgl))
end Go.Proofs.YtjmcgdhekjkjfaaDoor
set_option linter.unusedSimpArgs false
set_option linter.unusedVariables false
namespace Go.Proofs.YtjmcgdhekjkjfaaDoor
open Go Go.VM
variable {G : GE}
set_option maxRecDepth 100000
set_option maxHeartbeats 4000000
theorem subC_bw : ∀ (a b : List Int) (c : Int), a.length = b.length → In64 a → In64 b → 0 ≤ c → c ≤ 1 → (subC a b c).2 = if wL a < wL b + c then 1 else 0
  | [], [], c, _, _, _, h0, h1 => by
    show c = _
    by_cases h : wL [] < wL [] + c
    · rw [if_pos h]; omega
    · rw [if_neg h]; omega
  | [], _ :: _, _, h, _, _, _, _ => by cases h
  | _ :: _, [], _, h, _, _, _, _ => by cases h
  | x :: a, y :: b, c, h, ha, hb, h0, h1 => by
    have hx := ha x (List.mem_cons_self ..)
    have hy := hb y (List.mem_cons_self ..)
    have hw := bw_01 x y c
    have ih := subC_bw a b (bw x y c) (by simpa using h) (fun z hz => ha z (List.mem_cons_of_mem _ hz)) (fun z hz => hb z (List.mem_cons_of_mem _ hz)) hw.1 hw.2
    simp only [subC, ih]
    have e1 : wL (x :: a) = x + 18446744073709551616 * wL a := rfl
    have e2 : wL (y :: b) = y + 18446744073709551616 * wL b := rfl
    have e3 := bw_eq x y c
    by_cases h2 : x < y + c
    · rw [if_pos h2] at e3
      by_cases h3 : wL a < wL b + bw x y c
      · rw [if_pos h3, if_pos (show wL (x :: a) < wL (y :: b) + c by omega)]
      · rw [if_neg h3, if_neg (show ¬ wL (x :: a) < wL (y :: b) + c by omega)]
    · rw [if_neg h2] at e3
      by_cases h3 : wL a < wL b + bw x y c
      · rw [if_pos h3, if_pos (show wL (x :: a) < wL (y :: b) + c by omega)]
      · rw [if_neg h3, if_neg (show ¬ wL (x :: a) < wL (y :: b) + c by omega)]
def SubK (G : GE) : Prop := ∀ F n a0 a1 a2 a3 a4 a5 b0 b1 b2 b3 b4 b5, 8 ≤ F →
    callN (envG G) F (n+2) 94 [.d (limbD [a0, a1, a2, a3, a4, a5]), .d (limbD [b0, b1, b2, b3, b4, b5])] = some ⟨[.d (limbD (subC [a0, a1, a2, a3, a4, a5] [b0, b1, b2, b3, b4, b5] 0).1), .d (.int .u64 (subC [a0, a1, a2, a3, a4, a5] [b0, b1, b2, b3, b4, b5] 0).2)], []⟩
theorem t_Less (hK : SubK G) (F n : Nat) (hF : 8 ≤ F) (a0 a1 a2 a3 a4 a5 b0 b1 b2 b3 b4 b5 : Int) (ha : In64 [a0, a1, a2, a3, a4, a5]) (hb : In64 [b0, b1, b2, b3, b4, b5]) :
    callN (envG G) F (n+3) 114 [.d (limbD [a0, a1, a2, a3, a4, a5]), .d (limbD [b0, b1, b2, b3, b4, b5])] = some ⟨[.d (.int .u64 (if wL [a0, a1, a2, a3, a4, a5] < wL [b0, b1, b2, b3, b4, b5] then 1 else 0))], []⟩ := by
  have k := hK F n a0 a1 a2 a3 a4 a5 b0 b1 b2 b3 b4 b5 hF
  rw [subC_bw [a0, a1, a2, a3, a4, a5] [b0, b1, b2, b3, b4, b5] 0 rfl ha hb (by omega) (by omega), Int.add_zero] at k
  obtain ⟨l0, l1, l2, l3, l4, l5, hl⟩ : ∃ l0 l1 l2 l3 l4 l5, (subC [a0, a1, a2, a3, a4, a5] [b0, b1, b2, b3, b4, b5] 0).1 = [l0, l1, l2, l3, l4, l5] := ⟨_, _, _, _, _, _, rfl⟩
  rw [hl] at k
  clear hl
  generalize (if wL [a0, a1, a2, a3, a4, a5] < wL [b0, b1, b2, b3, b4, b5] then (1 : Int) else 0) = r at *
  clear ha hb hK
  rw [callN_run (fn := Tryd.f114) rfl rfl rfl (by simp [Tryd.ntmps114])]
  generalize hC : (envG G).ctx 114 (callN (envG G) F (n+2)) (callP (envG G) F (n+2)) = C
  have htt : C.tt = (envG G).tt := by rw [← hC]; rfl
  have hlin : C.lin = [] := by rw [← hC]; rfl
  have hreg : C.reg = reg114 := by rw [← hC]; rfl
  have hcall : C.call = callN (envG G) F (n+2) := by rw [← hC]; rfl
  have hcallP : C.callP = callP (envG G) F (n+2) := by rw [← hC]; rfl
  simp only [limbD, List.map] at *
  simp [htt, hlin, hreg, reg114, hcall, hcallP, k]
@[simp] theorem evO_glob (C : Ctx) (st : St) (t g : Nat) : evO C st t (.global g) = some (.gp g 0) := (rfl)
theorem bin_ne_agg {C : Ctx} {t : Nat} {ox oy : Operand} (p : List D) (v : V) : evBin C .neq t ox oy (.d (.agg p)) v = notB (evEq C t ox oy (.d (.agg p)) v) := (rfl)
theorem bin_eq_agg {C : Ctx} {t : Nat} {ox oy : Operand} (p : List D) (v : V) : evBin C .eql t ox oy (.d (.agg p)) v = yesB (evEq C t ox oy (.d (.agg p)) v) := (rfl)
theorem u384_eq {C : Ctx} (htt : C.tt = (envG G).tt) (ox oy : Operand) (a0 a1 a2 a3 a4 a5 b0 b1 b2 b3 b4 b5 : Int) :
    eqK C 64 (.arr 6 53) true ox oy (.d (.agg [.int .u64 a0, .int .u64 a1, .int .u64 a2, .int .u64 a3, .int .u64 a4, .int .u64 a5])) (.d (.agg [.int .u64 b0, .int .u64 b1, .int .u64 b2, .int .u64 b3, .int .u64 b4, .int .u64 b5])) = some (decide (a0 = b0) && decide (a1 = b1) && decide (a2 = b2) && decide (a3 = b3) && decide (a4 = b4) && decide (a5 = b5)) := by
  have h : eqK C 64 (.arr 6 53) true ox oy (.d (.agg [.int .u64 a0, .int .u64 a1, .int .u64 a2, .int .u64 a3, .int .u64 a4, .int .u64 a5])) (.d (.agg [.int .u64 b0, .int .u64 b1, .int .u64 b2, .int .u64 b3, .int .u64 b4, .int .u64 b5])) = (bif a0 == b0 then (bif a1 == b1 then (bif a2 == b2 then (bif a3 == b3 then (bif a4 == b4 then (bif a5 == b5 then (some true) else some false) else some false) else some false) else some false) else some false) else some false) := by
    cases C
    cases htt
    kernel_rfl
  rw [h]
  have e : ∀ x y : Int, (x == y) = decide (x = y) := fun x y => by by_cases h : x = y <;> simp [h]
  simp only [e]
  by_cases h0 : a0 = b0 <;> by_cases h1 : a1 = b1 <;> by_cases h2 : a2 = b2 <;> by_cases h3 : a3 = b3 <;> by_cases h4 : a4 = b4 <;> by_cases h5 : a5 = b5 <;> simp [h0, h1, h2, h3, h4, h5]
def groupM : List Int := [17072048233947408755, 6348401684107011962, 14367412456785391071, 18446744073709551615, 18446744073709551615, 18446744073709551615]
def groupC : List D := (groupM ++ [7986114184663260229, 3256554584917936553, 18391999277541532697, 13564358545871743303, 15279949475123764421, 4589268600508278933, 902107514168524577]).map (.int .u64)
def GroupG (G : GE) : Prop := G.glob 0 = some groupC
theorem groupM_in : In64 groupM := by
  unfold In64 groupM
  simp
theorem t_orderN (hg : GroupG G) (F n : Nat) : callN (envG G) F (n+1) 115 [] = some ⟨[.d (limbD groupM)], []⟩ := by
  rw [callN_run (fn := Tryd.f115) rfl rfl rfl (by simp [Tryd.ntmps115])]
  generalize hC : (envG G).ctx 115 (callN (envG G) F (n)) (callP (envG G) F (n)) = C
  have htt : C.tt = (envG G).tt := by rw [← hC]; rfl
  have hlin : C.lin = [] := by rw [← hC]; rfl
  have hreg : C.reg = reg115 := by rw [← hC]; rfl
  have hcall : C.call = callN (envG G) F (n) := by rw [← hC]; rfl
  have hcallP : C.callP = callP (envG G) F (n) := by rw [← hC]; rfl
  have hgl : C.glob 0 = some groupC := by rw [← hC]; exact hg
  clear hC
  simp only [groupC, groupM, limbD, List.map, List.cons_append, List.nil_append] at *
  simp [htt, hlin, hreg, reg115, hcall, hcallP, hgl, ld_gp, fldA_gp]
def isScalar (a : List Int) : Bool := !decide (wL a = 0) && decide (wL a < wL groupM)
theorem t_eScalar (hK : SubK G) (hg : GroupG G) (F n : Nat) (hF : 8 ≤ F) (a0 a1 a2 a3 a4 a5 : Int) (ha : In64 [a0, a1, a2, a3, a4, a5]) :
    callN (envG G) F (n+4) 76 [.d (limbD [a0, a1, a2, a3, a4, a5])] = some ⟨[.d (.bool (isScalar [a0, a1, a2, a3, a4, a5]))], []⟩ := by
  have k1 := t_orderN (G := G) hg F (n+2)
  have k2 := t_Less (G := G) hK F n hF a0 a1 a2 a3 a4 a5 _ _ _ _ _ _ ha groupM_in
  have hz := wL_zero ha
  simp only [List.mem_cons, List.not_mem_nil, or_false, forall_eq_or_imp, forall_eq] at hz
  unfold isScalar
  change callN _ _ _ _ [_, .d (limbD groupM)] = _ at k2
  rw [show wL [17072048233947408755, 6348401684107011962, 14367412456785391071, 18446744073709551615, 18446744073709551615, 18446744073709551615] = wL groupM from rfl] at k2
  generalize wL [a0, a1, a2, a3, a4, a5] = w at *
  generalize wL groupM = q at *
  rw [callN_run (fn := Tryd.f76) rfl rfl rfl (by simp [Tryd.ntmps76])]
  generalize hC : (envG G).ctx 76 (callN (envG G) F (n+3)) (callP (envG G) F (n+3)) = C
  have htt : C.tt = (envG G).tt := by rw [← hC]; rfl
  have hlin : C.lin = [] := by rw [← hC]; rfl
  have hreg : C.reg = reg76 := by rw [← hC]; rfl
  have hcall : C.call = callN (envG G) F (n+3) := by rw [← hC]; rfl
  have hcallP : C.callP = callP (envG G) F (n+3) := by rw [← hC]; rfl
  have hlv_200001 : C.live 200001 = [] := by rw [← hC]; rfl
  have hlv_250001 : C.live 250001 = [] := by rw [← hC]; rfl
  clear hC ha hK hg
  simp only [limbD, List.map, groupM] at *
  by_cases hw : w = 0
  · have h0 := hz.1 hw
    obtain ⟨rfl, rfl, rfl, rfl, rfl, rfl⟩ := h0
    simp [htt, hlin, hreg, reg76, hcall, hcallP, hlv_200001, hlv_250001, bin_ne_agg, (u384_eq (G := G)), notB_some, k1, k2, hw]
  · have h0 : (decide (a0 = 0) && decide (a1 = 0) && decide (a2 = 0) && decide (a3 = 0) && decide (a4 = 0) && decide (a5 = 0)) = false := by
      simp only [Bool.and_eq_false_imp, decide_eq_true_eq, decide_eq_false_iff_not, Bool.and_eq_true]
      intro ⟨⟨⟨⟨h0, h1⟩, h2⟩, h3⟩, h4⟩ h5
      exact hw (hz.2 ⟨h0, h1, h2, h3, h4, h5⟩)
    by_cases hq : w < q
    · simp [htt, hlin, hreg, reg76, hcall, hcallP, hlv_200001, hlv_250001, bin_ne_agg, (u384_eq (G := G)), notB_some, k1, k2, hw, hq, h0]
    · simp [htt, hlin, hreg, reg76, hcall, hcallP, hlv_200001, hlv_250001, bin_ne_agg, (u384_eq (G := G)), notB_some, k1, k2, hw, hq, h0]
end Go.Proofs.YtjmcgdhekjkjfaaDoor
set_option linter.unusedSimpArgs false
set_option linter.unusedVariables false
namespace Go.Proofs.YtjmcgdhekjkjfaaDoor
open Go Go.VM
variable {G : GE}
set_option maxRecDepth 100000
set_option maxHeartbeats 4000000
theorem w_lo {a : Int} (h : 0 ≤ a ∧ a < 18446744073709551616) : IntKind.u64.wrap (a.tmod 4294967296) = a % 4294967296 := by
  rw [Int.tmod_eq_emod_of_nonneg h.1]
  exact ok_u64 (by omega) (by omega)
theorem w_hi {a : Int} (h : 0 ≤ a ∧ a < 18446744073709551616) : IntKind.u64.wrap (a.tdiv 4294967296) = a / 4294967296 := by
  rw [Int.tdiv_eq_ediv_of_nonneg h.1]
  exact ok_u64 (by omega) (by omega)
theorem t_Of (F n : Nat) (hF : 14 ≤ F) (a0 a1 a2 a3 a4 a5 : Int) (ha : In64 [a0, a1, a2, a3, a4, a5]) :
    callN (envG G) F (n+2) 79 [.d (.nums .u64 false [a0, a1, a2, a3, a4, a5])] = some ⟨[.d (.nums .u64 false (trimL (halves [a0, a1, a2, a3, a4, a5])))], []⟩ := by
  have k := t_Trim (G := G) F n false (halves [a0, a1, a2, a3, a4, a5]) (by simp [halves]) (by simp [halves]; omega)
  generalize trimL (halves [a0, a1, a2, a3, a4, a5]) = r at *
  simp only [In64, List.mem_cons, List.not_mem_nil, or_false, forall_eq_or_imp, forall_eq] at ha
  obtain ⟨ha0, ha1, ha2, ha3, ha4, ha5⟩ := ha
  simp only [halves, ← w_lo ha0, ← w_lo ha1, ← w_lo ha2, ← w_lo ha3, ← w_lo ha4, ← w_lo ha5, ← w_hi ha0, ← w_hi ha1, ← w_hi ha2, ← w_hi ha3, ← w_hi ha4, ← w_hi ha5] at k
  clear ha0 ha1 ha2 ha3 ha4 ha5
  rw [callN_run (fn := Tryd.f79) rfl rfl rfl (by simp [Tryd.ntmps79])]
  generalize hC : (envG G).ctx 79 (callN (envG G) F (n+1)) (callP (envG G) F (n+1)) = C
  have htt : C.tt = (envG G).tt := by rw [← hC]; rfl
  have hlin : C.lin = [25, 23, 3, 2, 11] := by rw [← hC]; rfl
  have hreg : C.reg = reg79 := by rw [← hC]; rfl
  have hcall : C.call = callN (envG G) F (n+1) := by rw [← hC]; rfl
  have hcallP : C.callP = callP (envG G) F (n+1) := by rw [← hC]; rfl
  have hlv_3 : C.live 3 = [0, 3, 4] := by rw [← hC]; rfl
  have hlv_100003 : C.live 100003 = [2, 3] := by rw [← hC]; rfl
  have hlv_200005 : C.live 200005 = [] := by rw [← hC]; rfl
  have hlv_250005 : C.live 250005 = [11] := by rw [← hC]; rfl
  obtain ⟨F, rfl⟩ : ∃ j, F = j + 14 := ⟨F - 14, by omega⟩
  simp [htt, hlin, hreg, reg79, hcall, hcallP, hlv_3, hlv_100003, hlv_200005, hlv_250005, ev_loop, iter_eq, k]
theorem t_Of6 (F n : Nat) (hF : 14 ≤ F) (a0 a1 a2 a3 a4 a5 : Int) (ha : In64 [a0, a1, a2, a3, a4, a5]) :
    callN (envG G) F (n+3) 40 [.d (limbD [a0, a1, a2, a3, a4, a5])] = some ⟨[.d (.nums .u64 false (trimL (halves [a0, a1, a2, a3, a4, a5])))], []⟩ := by
  have k := t_Of (G := G) F n hF a0 a1 a2 a3 a4 a5 ha
  generalize trimL (halves [a0, a1, a2, a3, a4, a5]) = r at *
  clear ha
  simp only [limbD, List.map]
  rw [callN_run (fn := Tryd.f40) rfl rfl rfl (by simp [Tryd.ntmps40])]
  generalize hC : (envG G).ctx 40 (callN (envG G) F (n+2)) (callP (envG G) F (n+2)) = C
  have htt : C.tt = (envG G).tt := by rw [← hC]; rfl
  have hlin : C.lin = [16, 14, 3, 2, 9] := by rw [← hC]; rfl
  have hreg : C.reg = reg40 := by rw [← hC]; rfl
  have hcall : C.call = callN (envG G) F (n+2) := by rw [← hC]; rfl
  have hcallP : C.callP = callP (envG G) F (n+2) := by rw [← hC]; rfl
  have hlv_3 : C.live 3 = [1, 3, 4] := by rw [← hC]; rfl
  have hlv_100003 : C.live 100003 = [2, 3] := by rw [← hC]; rfl
  obtain ⟨F, rfl⟩ : ∃ j, F = j + 14 := ⟨F - 14, by omega⟩
  simp [htt, hlin, hreg, reg40, hcall, hcallP, hlv_3, hlv_100003, ev_loop, iter_eq, k]
theorem loop_cmp {m : Nat} {C : Ctx} {F : Nat} (hC : (envG G).ctx 46 (callN (envG G) F (m)) (callP (envG G) F (m)) = C) {c : Code} (hc : loopAt 6 Tryd.f46 = some c) (na nb : Bool) (a b : List Int) (hx : a.length ≤ 140737488355328) :
    ∀ (i k : Nat) (st : St), i ≤ a.length → i ≤ b.length → i < k → st.trim 0 [0, 1, 5] = ⟨[(0, .d (.nums .u64 na a)), (1, .d (.nums .u64 nb b)), (5, .d (.int .i64 ((i : Int) - 1)))], [], []⟩ →
      match cmpT a b i with
      | 0 => iter (ev C F c) 0 [0, 1, 5] [4] k st = some (.exit 0, ⟨[], [], []⟩)
      | r => iter (ev C F c) 0 [0, 1, 5] [4] k st = some (.ret, ⟨[(4, .d (.int .i64 r))], [], []⟩) := by
  have htt : C.tt = (envG G).tt := by rw [← hC]; rfl
  have hlin : C.lin = [] := by rw [← hC]; rfl
  have hreg : C.reg = reg46 := by rw [← hC]; rfl
  have hcall : C.call = callN (envG G) F (m) := by rw [← hC]; rfl
  have hcallP : C.callP = callP (envG G) F (m) := by rw [← hC]; rfl
  have hlv_6 : C.live 6 = [0, 1, 5] := by rw [← hC]; rfl
  have hlv_100006 : C.live 100006 = [4] := by rw [← hC]; rfl
  have hlv_200008 : C.live 200008 = [] := by rw [← hC]; rfl
  have hlv_250008 : C.live 250008 = [] := by rw [← hC]; rfl
  have hlv_200010 : C.live 200010 = [] := by rw [← hC]; rfl
  have hlv_250010 : C.live 250010 = [] := by rw [← hC]; rfl
  have hev : ∀ st, ev C F c st = ev C F ((loopAt 6 Tryd.f46).getD .skip) st := fun st => by rw [hc]; rfl
  intro i
  induction i with
  | zero =>
    intro k st hi hj hk hst
    obtain ⟨k, rfl⟩ : ∃ j, k = j + 1 := ⟨k - 1, by omega⟩
    show iter _ _ _ _ _ _ = _
    rw [iter_eq, hst, hev]
    simp [loopAt, findLoop, Tryd.f46, htt, hlin, hreg, reg46, hcall, hcallP, hlv_6, hlv_100006, hlv_200008, hlv_250008, hlv_200010, hlv_250010]
  | succ i ih =>
    intro k st hi hj hk hst
    obtain ⟨k, rfl⟩ : ∃ j, k = j + 1 := ⟨k - 1, by omega⟩
    have e0 : (((i + 1 : Nat) : Int) - 1) = i := by omega
    rw [e0] at hst
    have e2 : i < a.length := by omega
    have e3 : i < b.length := by omega
    have e4 : (-9223372036854775808 : Int) ≤ i - 1 := by omega
    have e5 : (i : Int) - 1 ≤ 9223372036854775807 := by omega
    have ih' := fun st h => ih k st (by omega) (by omega) (by omega) h
    unfold cmpT
    have g1 : a.getD i 0 = a[i] := by simp [List.getD, e2]
    have g2 : b.getD i 0 = b[i] := by simp [List.getD, e3]
    rw [g1, g2]
    by_cases h1 : a[i] < b[i]
    · simp only [h1, decide_true]
      rw [iter_eq, hst, hev]
      simp [loopAt, findLoop, Tryd.f46, htt, hlin, hreg, reg46, hcall, hcallP, hlv_6, hlv_100006, hlv_200008, hlv_250008, hlv_200010, hlv_250010, e2, e3, h1]
    · by_cases h2 : b[i] < a[i]
      · simp only [h1, h2, decide_true, decide_false]
        rw [iter_eq, hst, hev]
        simp [loopAt, findLoop, Tryd.f46, htt, hlin, hreg, reg46, hcall, hcallP, hlv_6, hlv_100006, hlv_200008, hlv_250008, hlv_200010, hlv_250010, e2, e3, h1, h2]
      · simp only [h1, h2, decide_false]
        rw [iter_eq, hst, hev]
        generalize cmpT a b i = z at *
        simp [loopAt, findLoop, Tryd.f46, htt, hlin, hreg, reg46, hcall, hcallP, hlv_6, hlv_100006, hlv_200008, hlv_250008, hlv_200010, hlv_250010, e2, e3, e4, e5, h1, h2]
        exact ih' _ (by simp)
end Go.Proofs.YtjmcgdhekjkjfaaDoor
