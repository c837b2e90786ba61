/- Elements as trees, and what is said of them: no program in sight. -/
import Derived.Test.YtjmcgdhekjkjfaaDoorSA
import Derived.Test.YtjmcgdhekjkjfaaDoorVMU
namespace Go.Proofs.YtjmcgdhekjkjfaaDoor
open Go Go.VM
set_option linter.unusedSimpArgs false
set_option linter.unusedVariables false
theorem at_of_drop {α : Type} {l : List α} {i : Nat} {p : α} {t : List α} (h : l.drop i = p :: t) : l[i]? = some p := by
  have : (l.drop i)[0]? = some p := by rw [h]; rfl
  simpa using this
theorem drop_succ {α : Type} {l : List α} {i : Nat} {p : α} {t : List α} (h : l.drop i = p :: t) : l.drop (i + 1) = t ∧ i < l.length := by
  refine ⟨by rw [← List.drop_drop, h]; rfl, ?_⟩
  rcases Nat.lt_or_ge i l.length with h1 | h1
  · exact h1
  · rw [List.drop_eq_nil_of_le h1] at h; cases h
theorem drop_nil {α : Type} {l : List α} {i : Nat} (h : l.drop i = []) : l.length ≤ i := by simpa using h
inductive Tlv where
  | mk (cls tag : Int) (made bnil : Bool) (body : List Int) (knil : Bool) (kids : List Tlv)
mutual
def Tlv.cells : Tlv → List D
  | .mk c t m bn b kn ks => [.int .i64 c, .int .i64 t, .bool m, .nums .u8 bn b, .sl 5 kn (Tlv.cellsL ks)]
def Tlv.cellsL : List Tlv → List (List D)
  | [] => []
  | x :: l => x.cells :: Tlv.cellsL l
end
mutual
def Tlv.same : Tlv → Tlv → Bool
  | .mk c t m _ b _ ks, .mk c' t' m' _ b' _ ks' => decide (c = c' ∧ t = t' ∧ m = m' ∧ b = b' ∧ ks.length = ks'.length) && Tlv.sameL ks ks'
def Tlv.sameL : List Tlv → List Tlv → Bool
  | x :: l, y :: l' => x.same y && Tlv.sameL l l'
  | _, _ => true
end
mutual
def Tlv.depth : Tlv → Nat
  | .mk _ _ _ _ _ _ ks => Tlv.depthL ks + 1
def Tlv.depthL : List Tlv → Nat
  | [] => 0
  | x :: l => max x.depth (Tlv.depthL l)
end
mutual
def Tlv.fits (F : Nat) : Tlv → Prop
  | .mk _ _ _ _ _ _ ks => ks.length < F ∧ Tlv.fitsL F ks
def Tlv.fitsL (F : Nat) : List Tlv → Prop
  | [] => True
  | x :: l => x.fits F ∧ Tlv.fitsL F l
end
theorem cellsL_len : ∀ l : List Tlv, (Tlv.cellsL l).length = l.length
  | [] => rfl
  | x :: l => by simp [Tlv.cellsL, cellsL_len l]
theorem cellsL_map : ∀ l : List Tlv, Tlv.cellsL l = l.map Tlv.cells
  | [] => rfl
  | x :: l => by simp [Tlv.cellsL, cellsL_map l]
theorem cellsL_at {l : List Tlv} {i : Nat} {x : Tlv} {t : List Tlv} (h : l.drop i = x :: t) : (Tlv.cellsL l)[i]? = some x.cells := by
  rw [cellsL_map, List.getElem?_map, at_of_drop h]; rfl
theorem depthL_mem {x : Tlv} : ∀ {l : List Tlv}, x ∈ l → x.depth ≤ Tlv.depthL l
  | y :: l, h => by
    simp only [Tlv.depthL]
    rcases List.mem_cons.1 h with rfl | h
    · omega
    · have := depthL_mem h; omega
theorem fitsL_mem {F : Nat} {x : Tlv} : ∀ {l : List Tlv}, Tlv.fitsL F l → x ∈ l → x.fits F
  | y :: l, hf, h => by
    simp only [Tlv.fitsL] at hf
    rcases List.mem_cons.1 h with rfl | h
    · exact hf.1
    · exact fitsL_mem hf.2 h
theorem cells_five (x : Tlv) : x.cells.length = 5 := by cases x; rfl
mutual
def Tlv.width (B : Nat) : Tlv → Prop
  | .mk _ _ _ _ b _ ks => b.length ≤ B ∧ ks.length ≤ B ∧ Tlv.widthL B ks
def Tlv.widthL (B : Nat) : List Tlv → Prop
  | [] => True
  | x :: l => x.width B ∧ Tlv.widthL B l
end
theorem widthL_mem {B : Nat} {x : Tlv} : ∀ {l : List Tlv}, Tlv.widthL B l → x ∈ l → x.width B
  | y :: l, hf, h => by
    simp only [Tlv.widthL] at hf
    rcases List.mem_cons.1 h with rfl | h
    · exact hf.1
    · exact widthL_mem hf.2 h
mutual
def Tlv.light : Nat → Tlv → Int → Int
  | 0, _, _ => -1
  | d + 1, .mk _ _ _ _ b _ ks, left => if left - 1 - b.length < 0 then -1 else Tlv.lightL d ks (left - 1 - b.length)
def Tlv.lightL : Nat → List Tlv → Int → Int
  | _, [], left => left
  | d, x :: l, left => if x.light d left < 0 then -1 else Tlv.lightL d l (x.light d left)
end
mutual
theorem light_le : ∀ (d : Nat) (x : Tlv) (left : Int), -1 ≤ x.light d left ∧ (0 ≤ left → x.light d left ≤ left)
  | 0, x, left => by simp [Tlv.light]; omega
  | d + 1, .mk _ _ _ _ b _ ks, left => by
    simp only [Tlv.light]
    split
    · omega
    · have := lightL_le d ks (left - 1 - b.length) (by omega)
      omega
theorem lightL_le : ∀ (d : Nat) (l : List Tlv) (left : Int), 0 ≤ left → -1 ≤ Tlv.lightL d l left ∧ Tlv.lightL d l left ≤ left
  | d, [], left, h => by simp [Tlv.lightL]; omega
  | d, x :: l, left, h => by
    simp only [Tlv.lightL]
    have h1 := light_le d x left
    split
    · omega
    · have := lightL_le d l (x.light d left) (by omega)
      omega
end
mutual
def Tlv.fine : Tlv → Bool
  | .mk c t m _ b _ ks => decide (0 ≤ c ∧ c ≤ 3 ∧ 0 ≤ t ∧ t ≤ 30 ∧ (m = true → b = []) ∧ (m = false → ks = [])) && Tlv.fineL ks
def Tlv.fineL : List Tlv → Bool
  | [] => true
  | x :: l => x.fine && Tlv.fineL l
end
mutual
def Tlv.weight : Tlv → Nat
  | .mk _ _ _ _ b _ ks => 1 + b.length + Tlv.weightL ks
def Tlv.weightL : List Tlv → Nat
  | [] => 0
  | x :: l => x.weight + Tlv.weightL l
end
mutual
theorem light_weight : ∀ (d : Nat) (x : Tlv) (left : Int), 0 ≤ x.light d left → x.light d left = left - x.weight ∧ x.depth ≤ d
  | 0, x, left, h => by simp [Tlv.light] at h
  | d + 1, .mk _ _ _ _ b _ ks, left, h => by
    simp only [Tlv.light] at h ⊢
    split at h
    · omega
    · rename_i hn
      rw [if_neg hn]
      have := lightL_weight d ks (left - 1 - b.length) (by omega) h
      simp only [Tlv.weight, Tlv.depth]
      omega
theorem lightL_weight : ∀ (d : Nat) (l : List Tlv) (left : Int), 0 ≤ left → 0 ≤ Tlv.lightL d l left → Tlv.lightL d l left = left - Tlv.weightL l ∧ Tlv.depthL l ≤ d
  | d, [], left, h0, h => by simp [Tlv.lightL, Tlv.weightL, Tlv.depthL]
  | d, x :: l, left, h0, h => by
    simp only [Tlv.lightL] at h ⊢
    split at h
    · omega
    · rename_i hn
      rw [if_neg hn]
      have h1 := light_weight d x left (by omega)
      have h2 := lightL_weight d l (x.light d left) (by omega) h
      simp only [Tlv.weightL, Tlv.depthL]
      omega
end
def sizeB (n : Nat) : List Int := if n < 128 then [(n : Int)] else if n < 256 then [129, (n : Int)] else if n < 65536 then [130, (n : Int) / 256, (n : Int) % 256] else [131, (n : Int) / 65536, (n : Int) / 256 % 256, (n : Int) % 256]
def headB (c t : Int) (m : Bool) (n : Nat) : List Int := (64 * c + t + (if m then 32 else 0)) :: sizeB n
mutual
def Tlv.enc : Tlv → List Int
  | .mk c t m _ b _ ks => headB c t m (b ++ Tlv.encL ks).length ++ (b ++ Tlv.encL ks)
def Tlv.encL : List Tlv → List Int
  | [] => []
  | x :: l => x.enc ++ Tlv.encL l
end
theorem sizeB_le (n : Nat) : (sizeB n).length ≤ 4 := by
  unfold sizeB; repeat' split
  all_goals simp
mutual
theorem enc_le : ∀ x : Tlv, x.enc.length ≤ 6 * x.weight
  | .mk c t m _ b _ ks => by
    have := encL_le ks
    have h2 := sizeB_le (b ++ Tlv.encL ks).length
    simp only [Tlv.enc, Tlv.weight, headB, List.length_append, List.length_cons] at h2 ⊢
    omega
theorem encL_le : ∀ l : List Tlv, (Tlv.encL l).length ≤ 6 * Tlv.weightL l
  | [] => by simp [Tlv.encL]
  | x :: l => by
    have h1 := enc_le x
    have h2 := encL_le l
    simp only [Tlv.encL, Tlv.weightL, List.length_append]
    omega
end
theorem weightL_mem {x : Tlv} : ∀ {l : List Tlv}, x ∈ l → x.weight ≤ Tlv.weightL l
  | y :: l, h => by
    simp only [Tlv.weightL]
    rcases List.mem_cons.1 h with rfl | h
    · omega
    · have := weightL_mem h; omega
theorem fineL_mem {x : Tlv} : ∀ {l : List Tlv}, Tlv.fineL l = true → x ∈ l → x.fine = true
  | y :: l, hf, h => by
    simp only [Tlv.fineL, Bool.and_eq_true] at hf
    rcases List.mem_cons.1 h with rfl | h
    · exact hf.1
    · exact fineL_mem hf.2 h
mutual
def Tlv.bytesOk : Tlv → Prop
  | .mk _ _ _ _ b _ ks => (∀ c ∈ b, 0 ≤ c ∧ c < 256) ∧ Tlv.bytesOkL ks
def Tlv.bytesOkL : List Tlv → Prop
  | [] => True
  | x :: l => x.bytesOk ∧ Tlv.bytesOkL l
end
theorem bytesOk_mem {x : Tlv} : ∀ {l : List Tlv}, Tlv.bytesOkL l → x ∈ l → x.bytesOk
  | y :: l, hf, h => by
    simp only [Tlv.bytesOkL] at hf
    rcases List.mem_cons.1 h with rfl | h
    · exact hf.1
    · exact bytesOk_mem hf.2 h
mutual
theorem weight_width {W : Nat} : ∀ x : Tlv, x.weight ≤ W → x.width W
  | .mk _ _ _ _ b _ ks, h => by
    simp only [Tlv.weight] at h
    have := weightL_len ks
    exact ⟨by omega, by omega, weightL_width ks (by omega)⟩
theorem weightL_width {W : Nat} : ∀ l : List Tlv, Tlv.weightL l ≤ W → Tlv.widthL W l
  | [], _ => trivial
  | x :: l, h => by
    simp only [Tlv.weightL] at h
    exact ⟨weight_width x (by omega), weightL_width l (by omega)⟩
theorem weightL_len : ∀ l : List Tlv, l.length ≤ Tlv.weightL l
  | [] => by simp [Tlv.weightL]
  | .mk _ _ _ _ b _ ks :: l => by
    have := weightL_len l
    simp only [Tlv.weightL, Tlv.weight, List.length_cons]; omega
end
end Go.Proofs.YtjmcgdhekjkjfaaDoor
set_option linter.unusedSimpArgs false
set_option linter.unusedVariables false
namespace Go.Proofs.YtjmcgdhekjkjfaaDoor
open Go Go.VM
variable {G : GE}
set_option maxRecDepth 100000
set_option maxHeartbeats 4000000
@[simp] theorem evO_nilptr (C : Ctx) (st : St) (t : Nat) : evO C st t (.const (.pointer none)) = some (.d .nilptr) := (rfl)
theorem t_cloneN (F n : Nat) : callN (envG G) F (n+1) 71 [.d (.nums .u8 true [])] = some ⟨[.d (.nums .u8 true [])], [0]⟩ := by
  rw [callN_run (fn := Tryd.f71) rfl rfl rfl (by simp [Tryd.ntmps71])]
  generalize hC : (envG G).ctx 71 (callN (envG G) F (n)) (callP (envG G) F (n)) = C
  have htt : C.tt = (envG G).tt := by rw [← hC]; rfl
  have hlin : C.lin = [7, 2, 5] := by rw [← hC]; rfl
  have hreg : C.reg = reg71 := by rw [← hC]; rfl
  have hcall : C.call = callN (envG G) F (n) := by rw [← hC]; rfl
  have hcallP : C.callP = callP (envG G) F (n) := by rw [← hC]; rfl
  clear hC
  simp [htt, hlin, hreg, reg71, hcall, hcallP]
theorem t_cloneF (F n : Nat) (xs : List Int) (h : xs.length ≤ 140737488355328) : callN (envG G) F (n+1) 71 [.d (.nums .u8 false xs)] = some ⟨[.d (.nums .u8 false xs)], [0]⟩ := by
  rw [callN_run (fn := Tryd.f71) rfl rfl rfl (by simp [Tryd.ntmps71])]
  generalize hC : (envG G).ctx 71 (callN (envG G) F (n)) (callP (envG G) F (n)) = C
  have htt : C.tt = (envG G).tt := by rw [← hC]; rfl
  have hlin : C.lin = [7, 2, 5] := by rw [← hC]; rfl
  have hreg : C.reg = reg71 := by rw [← hC]; rfl
  have hcall : C.call = callN (envG G) F (n) := by rw [← hC]; rfl
  have hcallP : C.callP = callP (envG G) F (n) := by rw [← hC]; rfl
  simp [htt, hlin, hreg, reg71, hcall, hcallP, h]
def devB (a b : D) (m : V) (fuses : Int) (off : Bool) (steps left : Int) : Blk := .cells false [.d a, .d b, m, .d (.int .u64 fuses), .d (.bool off), .d (.int .i64 steps), .d (.int .i64 left)]
theorem t_New (F n : Nat) (r : Int) (L : Nat) (hr : 0 ≤ r ∧ r ≤ 65536) (hL : L ≤ 262144) :
    callP (envG G) F (n+2) 25 [.d (.int .i64 r), .d (.nums .u8 true []), .mu 0 0 L L 1] [some (.ints false .u8 (List.replicate L 0))] [.t 1] =
      some ⟨[.ptr 1 0, .d .nilifc], [], [some (.ints true .u8 (List.replicate L 0)), some (devB (.nums .u8 true []) (.nums .u8 false (List.replicate L 0)) (.mu 2 0 r.toNat r.toNat 1) 0 false 0 0), some (.ints false .u8 (List.replicate r.toNat 0))], []⟩ := by
  have k1 := t_cloneN (G := G) F n
  have k2 := t_cloneF (G := G) F n (List.replicate L 0) (by simp; omega)
  have e1 : ¬ r < 0 := by omega
  have e2 : ¬ (65536 : Int) < r := by omega
  have e3 : ¬ (262144 : Int) < (L : Int) := by omega
  have e4 : 0 ≤ r := hr.1
  have e5 : r ≤ 9223372036854775807 := by omega
  have e6 : r ≤ 281474976710656 := by omega
  unfold devB
  rw [callP_run (fn := Tryd.f25) rfl rfl rfl (by simp [Tryd.ntmps25])]
  generalize hC : (envG G).ctx 25 (callN (envG G) F (n+1)) (callP (envG G) F (n+1)) = C
  have htt : C.tt = (envG G).tt := by rw [← hC]; rfl
  have hlin : C.lin = [] := by rw [← hC]; rfl
  have hreg : C.reg = reg25 := by rw [← hC]; rfl
  have hcall : C.call = callN (envG G) F (n+1) := by rw [← hC]; rfl
  have hcallP : C.callP = callP (envG G) F (n+1) := by rw [← hC]; rfl
  have hlv_200005 : C.live 200005 = [] := by rw [← hC]; rfl
  have hlv_250005 : C.live 250005 = [] := by rw [← hC]; rfl
  clear hC
  simp [htt, hlin, hreg, reg25, hcall, hcallP, hlv_200005, hlv_250005, k1, k2, e1, e2, e3, e4, e5, e6]
theorem t_New_bad (F n : Nat) (r : Int) (L : Nat) (hr : r < 0 ∨ 65536 < r) (hL : L ≤ 1048576) :
    callP (envG G) F (n+2) 25 [.d (.int .i64 r), .d (.nums .u8 true []), .mu 0 0 L L 1] [some (.ints false .u8 (List.replicate L 0))] [.t 1] =
      some ⟨[.d .nilptr, .d (.ifc 36 (.int .i64 1))], [], [some (.ints false .u8 (List.replicate L 0))], []⟩ := by
  by_cases e1 : r < 0
  · skip
    rw [callP_run (fn := Tryd.f25) rfl rfl rfl (by simp [Tryd.ntmps25])]
    generalize hC : (envG G).ctx 25 (callN (envG G) F (n+1)) (callP (envG G) F (n+1)) = C
    have htt : C.tt = (envG G).tt := by rw [← hC]; rfl
    have hlin : C.lin = [] := by rw [← hC]; rfl
    have hreg : C.reg = reg25 := by rw [← hC]; rfl
    have hcall : C.call = callN (envG G) F (n+1) := by rw [← hC]; rfl
    have hcallP : C.callP = callP (envG G) F (n+1) := by rw [← hC]; rfl
    have hlv_200005 : C.live 200005 = [] := by rw [← hC]; rfl
    have hlv_250005 : C.live 250005 = [] := by rw [← hC]; rfl
    clear hC
    simp [htt, hlin, hreg, reg25, hcall, hcallP, hlv_200005, hlv_250005, e1]
  · have e2 : (65536 : Int) < r := by omega
    rw [callP_run (fn := Tryd.f25) rfl rfl rfl (by simp [Tryd.ntmps25])]
    generalize hC : (envG G).ctx 25 (callN (envG G) F (n+1)) (callP (envG G) F (n+1)) = C
    have htt : C.tt = (envG G).tt := by rw [← hC]; rfl
    have hlin : C.lin = [] := by rw [← hC]; rfl
    have hreg : C.reg = reg25 := by rw [← hC]; rfl
    have hcall : C.call = callN (envG G) F (n+1) := by rw [← hC]; rfl
    have hcallP : C.callP = callP (envG G) F (n+1) := by rw [← hC]; rfl
    have hlv_200005 : C.live 200005 = [] := by rw [← hC]; rfl
    have hlv_250005 : C.live 250005 = [] := by rw [← hC]; rfl
    clear hC
    simp [htt, hlin, hreg, reg25, hcall, hcallP, hlv_200005, hlv_250005, e1, e2]
theorem t_New_long (F n : Nat) (r : Int) (L : Nat) (hr : 0 ≤ r ∧ r ≤ 65536) (hL : 262144 < L) (hL2 : L ≤ 1048576) :
    callP (envG G) F (n+2) 25 [.d (.int .i64 r), .d (.nums .u8 true []), .mu 0 0 L L 1] [some (.ints false .u8 (List.replicate L 0))] [.t 1] =
      some ⟨[.d .nilptr, .d (.ifc 36 (.int .i64 2))], [], [some (.ints false .u8 (List.replicate L 0))], []⟩ := by
  have e1 : ¬ r < 0 := by omega
  have e2 : ¬ (65536 : Int) < r := by omega
  have e3 : (262144 : Int) < (L : Int) := by omega
  rw [callP_run (fn := Tryd.f25) rfl rfl rfl (by simp [Tryd.ntmps25])]
  generalize hC : (envG G).ctx 25 (callN (envG G) F (n+1)) (callP (envG G) F (n+1)) = C
  have htt : C.tt = (envG G).tt := by rw [← hC]; rfl
  have hlin : C.lin = [] := by rw [← hC]; rfl
  have hreg : C.reg = reg25 := by rw [← hC]; rfl
  have hcall : C.call = callN (envG G) F (n+1) := by rw [← hC]; rfl
  have hcallP : C.callP = callP (envG G) F (n+1) := by rw [← hC]; rfl
  have hlv_200005 : C.live 200005 = [] := by rw [← hC]; rfl
  have hlv_250005 : C.live 250005 = [] := by rw [← hC]; rfl
  clear hC
  simp [htt, hlin, hreg, reg25, hcall, hcallP, hlv_200005, hlv_250005, e1, e2, e3]
theorem mu_nil {C : Ctx} (htt : C.tt = (envG G).tt) (o : Operand) (i f l c : Nat) : evBin C .eql 22 o (.const (.slice none 0 0)) (.mu i f l c 1) (.d (.nums .u8 true [])) = some (.bool false) := by
  cases C
  cases htt
  rfl
@[simp] theorem srcNums_mu0 (ts : List (Nat × V)) (os : List Pl) (fz : Bool) (xs : List Int) (l : List (Option Blk)) (o n c : Nat) : srcNums ⟨ts, some (.ints fz .u8 xs) :: l, os⟩ .u8 (.mu 0 o n c 1) = some ((xs.drop o).take n) := (rfl)
theorem t_cloneP (F n : Nat) (fz : Bool) (xs : List Int) (L : Nat) (hx : xs.length = L) (hL : L ≤ 65536) :
    callP (envG G) F (n+1) 71 [.mu 0 0 L L 1] [some (.ints fz .u8 xs)] [] = some ⟨[.d (.nums .u8 false xs)], [0], [some (.ints fz .u8 xs)], []⟩ := by
  have e1 : xs.take L = xs := by rw [← hx, List.take_length]
  have e2 : L ≤ 140737488355328 := by omega
  rw [callP_run (fn := Tryd.f71) rfl rfl rfl (by simp [Tryd.ntmps71])]
  generalize hC : (envG G).ctx 71 (callN (envG G) F (n)) (callP (envG G) F (n)) = C
  have htt : C.tt = (envG G).tt := by rw [← hC]; rfl
  have hlin : C.lin = [7, 2, 5] := by rw [← hC]; rfl
  have hreg : C.reg = reg71 := by rw [← hC]; rfl
  have hcall : C.call = callN (envG G) F (n) := by rw [← hC]; rfl
  have hcallP : C.callP = callP (envG G) F (n) := by rw [← hC]; rfl
  clear hC
  simp [htt, hlin, hreg, reg71, hcall, hcallP, e1, e2, hx, (mu_nil (G := G))]
theorem t_Ram (F n : Nat) (a b : D) (fz : Bool) (xs : List Int) (L : Nat) (hx : xs.length = L) (hL : L ≤ 65536) (f : Int) (off : Bool) (st l : Int) :
    callP (envG G) F (n+2) 33 [.ptr 0 0] [some (devB a b (.mu 1 0 L L 1) f off st l), some (.ints fz .u8 xs)] [] = some ⟨[.d (.nums .u8 false xs)], [0], [some (devB a b (.mu 1 0 L L 1) f off st l), some (.ints fz .u8 xs)], []⟩ := by
  have k := t_cloneP (G := G) F n fz xs L hx hL
  unfold devB
  rw [callP_run (fn := Tryd.f33) rfl rfl rfl (by simp [Tryd.ntmps33])]
  generalize hC : (envG G).ctx 33 (callN (envG G) F (n+1)) (callP (envG G) F (n+1)) = C
  have htt : C.tt = (envG G).tt := by rw [← hC]; rfl
  have hlin : C.lin = [7, 2, 1000007] := by rw [← hC]; rfl
  have hreg : C.reg = reg33 := by rw [← hC]; rfl
  have hcall : C.call = callN (envG G) F (n+1) := by rw [← hC]; rfl
  have hcallP : C.callP = callP (envG G) F (n+1) := by rw [← hC]; rfl
  clear hC
  simp [htt, hlin, hreg, reg33, hcall, hcallP, k]
theorem t_slot (F n : Nat) (i : Int) : callN (envG G) F (n+1) 73 [.d (.int .i64 i)] = some ⟨[.d (.bool (decide (i = 0 ∨ i = 1)))], []⟩ := by
  rw [callN_run (fn := Tryd.f73) rfl rfl rfl (by simp [Tryd.ntmps73])]
  generalize hC : (envG G).ctx 73 (callN (envG G) F (n)) (callP (envG G) F (n)) = C
  have htt : C.tt = (envG G).tt := by rw [← hC]; rfl
  have hlin : C.lin = [] := by rw [← hC]; rfl
  have hreg : C.reg = reg73 := by rw [← hC]; rfl
  have hcall : C.call = callN (envG G) F (n) := by rw [← hC]; rfl
  have hcallP : C.callP = callP (envG G) F (n) := by rw [← hC]; rfl
  clear hC
  by_cases h0 : i = 0
  · simp [htt, hlin, hreg, reg73, hcall, hcallP, h0]
  · by_cases h1 : i = 1 <;> simp [htt, hlin, hreg, reg73, hcall, hcallP, h0, h1]
theorem t_Slot0 (F n : Nat) (b : List Int) (nb : Bool) (fz : Bool) (xs : List Int) (L : Nat) (f : Int) (off : Bool) (st l : Int) (R : Option Hand) :
    callP (envG G) F (n+2) 34 [.ptr 0 0, .d (.int .i64 0)] [some (devB (.nums .u8 true []) (.nums .u8 nb b) (.mu 1 0 L L 1) f off st l), some (.ints fz .u8 xs)] [] = some ⟨[.d (.nums .u8 true []), .d .nilifc], [0], [some (devB (.nums .u8 true []) (.nums .u8 nb b) (.mu 1 0 L L 1) f off st l), some (.ints fz .u8 xs)], []⟩ := by
  have k := t_cloneN (G := G) F n
  have k2 := t_slot (G := G) F n 0
  unfold devB
  rw [callP_run (fn := Tryd.f34) rfl rfl rfl (by simp [Tryd.ntmps34])]
  generalize hC : (envG G).ctx 34 (callN (envG G) F (n+1)) (callP (envG G) F (n+1)) = C
  have htt : C.tt = (envG G).tt := by rw [← hC]; rfl
  have hlin : C.lin = [] := by rw [← hC]; rfl
  have hreg : C.reg = reg34 := by rw [← hC]; rfl
  have hcall : C.call = callN (envG G) F (n+1) := by rw [← hC]; rfl
  have hcallP : C.callP = callP (envG G) F (n+1) := by rw [← hC]; rfl
  clear hC
  simp [htt, hlin, hreg, reg34, hcall, hcallP, k, k2]
theorem t_Slot1 (F n : Nat) (b : List Int) (a : D) (fz : Bool) (xs : List Int) (L : Nat) (f : Int) (off : Bool) (st l : Int) (hb : b.length ≤ 262144) :
    callP (envG G) F (n+2) 34 [.ptr 0 0, .d (.int .i64 1)] [some (devB a (.nums .u8 false b) (.mu 1 0 L L 1) f off st l), some (.ints fz .u8 xs)] [] = some ⟨[.d (.nums .u8 false b), .d .nilifc], [0], [some (devB a (.nums .u8 false b) (.mu 1 0 L L 1) f off st l), some (.ints fz .u8 xs)], []⟩ := by
  have k := t_cloneF (G := G) F n b (by omega)
  have k2 := t_slot (G := G) F n 1
  unfold devB
  rw [callP_run (fn := Tryd.f34) rfl rfl rfl (by simp [Tryd.ntmps34])]
  generalize hC : (envG G).ctx 34 (callN (envG G) F (n+1)) (callP (envG G) F (n+1)) = C
  have htt : C.tt = (envG G).tt := by rw [← hC]; rfl
  have hlin : C.lin = [] := by rw [← hC]; rfl
  have hreg : C.reg = reg34 := by rw [← hC]; rfl
  have hcall : C.call = callN (envG G) F (n+1) := by rw [← hC]; rfl
  have hcallP : C.callP = callP (envG G) F (n+1) := by rw [← hC]; rfl
  clear hC
  simp [htt, hlin, hreg, reg34, hcall, hcallP, k, k2]
theorem t_Slot_bad (F n : Nat) (i : Int) (hi : ¬ (i = 0 ∨ i = 1)) (a b : D) (fz : Bool) (xs : List Int) (L : Nat) (f : Int) (off : Bool) (st l : Int) :
    callP (envG G) F (n+2) 34 [.ptr 0 0, .d (.int .i64 i)] [some (devB a b (.mu 1 0 L L 1) f off st l), some (.ints fz .u8 xs)] [] = some ⟨[.d (.nums .u8 true []), .d (.ifc 36 (.int .i64 1))], [], [some (devB a b (.mu 1 0 L L 1) f off st l), some (.ints fz .u8 xs)], []⟩ := by
  have k2 := t_slot (G := G) F n i
  rw [decide_eq_false hi] at k2
  unfold devB
  rw [callP_run (fn := Tryd.f34) rfl rfl rfl (by simp [Tryd.ntmps34])]
  generalize hC : (envG G).ctx 34 (callN (envG G) F (n+1)) (callP (envG G) F (n+1)) = C
  have htt : C.tt = (envG G).tt := by rw [← hC]; rfl
  have hlin : C.lin = [] := by rw [← hC]; rfl
  have hreg : C.reg = reg34 := by rw [← hC]; rfl
  have hcall : C.call = callN (envG G) F (n+1) := by rw [← hC]; rfl
  have hcallP : C.callP = callP (envG G) F (n+1) := by rw [← hC]; rfl
  clear hC
  simp [htt, hlin, hreg, reg34, hcall, hcallP, k2]
theorem t_Flash_bad (F n : Nat) (i : Int) (hi : ¬ (i = 0 ∨ i = 1)) (y : List Int) (a b : D) (fz : Bool) (xs : List Int) (L : Nat) (f : Int) (off : Bool) (st l : Int) :
    callP (envG G) F (n+2) 31 [.ptr 0 0, .d (.int .i64 i), .d (.nums .u8 false y)] [some (devB a b (.mu 1 0 L L 1) f off st l), some (.ints fz .u8 xs)] [] = some ⟨[.d (.ifc 36 (.int .i64 1))], [], [some (devB a b (.mu 1 0 L L 1) f off st l), some (.ints fz .u8 xs)], []⟩ := by
  have k2 := t_slot (G := G) F n i
  rw [decide_eq_false hi] at k2
  unfold devB
  rw [callP_run (fn := Tryd.f31) rfl rfl rfl (by simp [Tryd.ntmps31])]
  generalize hC : (envG G).ctx 31 (callN (envG G) F (n+1)) (callP (envG G) F (n+1)) = C
  have htt : C.tt = (envG G).tt := by rw [← hC]; rfl
  have hlin : C.lin = [] := by rw [← hC]; rfl
  have hreg : C.reg = reg31 := by rw [← hC]; rfl
  have hcall : C.call = callN (envG G) F (n+1) := by rw [← hC]; rfl
  have hcallP : C.callP = callP (envG G) F (n+1) := by rw [← hC]; rfl
  have hlv_200005 : C.live 200005 = [] := by rw [← hC]; rfl
  have hlv_250005 : C.live 250005 = [] := by rw [← hC]; rfl
  clear hC
  simp [htt, hlin, hreg, reg31, hcall, hcallP, hlv_200005, hlv_250005, k2]
theorem t_Flash_long (F n : Nat) (i : Int) (hi : i = 0 ∨ i = 1) (y : List Int) (hy : 262144 < y.length) (a b : D) (fz : Bool) (xs : List Int) (L : Nat) (f : Int) (off : Bool) (st l : Int) :
    callP (envG G) F (n+2) 31 [.ptr 0 0, .d (.int .i64 i), .d (.nums .u8 false y)] [some (devB a b (.mu 1 0 L L 1) f off st l), some (.ints fz .u8 xs)] [] = some ⟨[.d (.ifc 36 (.int .i64 2))], [], [some (devB a b (.mu 1 0 L L 1) f off st l), some (.ints fz .u8 xs)], []⟩ := by
  have k2 := t_slot (G := G) F n i
  rw [decide_eq_true hi] at k2
  have e1 : (262144 : Int) < (y.length : Int) := by omega
  unfold devB
  rw [callP_run (fn := Tryd.f31) rfl rfl rfl (by simp [Tryd.ntmps31])]
  generalize hC : (envG G).ctx 31 (callN (envG G) F (n+1)) (callP (envG G) F (n+1)) = C
  have htt : C.tt = (envG G).tt := by rw [← hC]; rfl
  have hlin : C.lin = [] := by rw [← hC]; rfl
  have hreg : C.reg = reg31 := by rw [← hC]; rfl
  have hcall : C.call = callN (envG G) F (n+1) := by rw [← hC]; rfl
  have hcallP : C.callP = callP (envG G) F (n+1) := by rw [← hC]; rfl
  have hlv_200005 : C.live 200005 = [] := by rw [← hC]; rfl
  have hlv_250005 : C.live 250005 = [] := by rw [← hC]; rfl
  clear hC
  simp [htt, hlin, hreg, reg31, hcall, hcallP, hlv_200005, hlv_250005, k2, e1]
end Go.Proofs.YtjmcgdhekjkjfaaDoor
set_option linter.unusedSimpArgs false
set_option linter.unusedVariables false
namespace Go.Proofs.YtjmcgdhekjkjfaaDoor
open Go Go.VM
variable {G : GE}
set_option maxRecDepth 100000
set_option maxHeartbeats 4000000
variable (a b : D) (xs : List Int) (L : Nat) (f : Int) (off : Bool) (st l : Int)
theorem t_On (F n : Nat) :
    callP (envG G) F (n+2) 26 [.ptr 0 0] [some (devB a b (.mu 1 0 L L 1) f off st l), some (.ints false .u8 xs)] [] = some ⟨[.d (.bool (!off))], [], [some (devB a b (.mu 1 0 L L 1) f off st l), some (.ints false .u8 xs)], []⟩ := by
  unfold devB
  rw [callP_run (fn := Tryd.f26) rfl rfl rfl (by simp [Tryd.ntmps26])]
  generalize hC : (envG G).ctx 26 (callN (envG G) F (n+1)) (callP (envG G) F (n+1)) = C
  have htt : C.tt = (envG G).tt := by rw [← hC]; rfl
  have hlin : C.lin = [] := by rw [← hC]; rfl
  have hreg : C.reg = reg26 := by rw [← hC]; rfl
  have hcall : C.call = callN (envG G) F (n+1) := by rw [← hC]; rfl
  have hcallP : C.callP = callP (envG G) F (n+1) := by rw [← hC]; rfl
  clear hC
  simp [htt, hlin, hreg, reg26, hcall, hcallP]
theorem t_Fuses (F n : Nat) :
    callP (envG G) F (n+2) 32 [.ptr 0 0] [some (devB a b (.mu 1 0 L L 1) f off st l), some (.ints false .u8 xs)] [] = some ⟨[.d (.int .u64 f)], [], [some (devB a b (.mu 1 0 L L 1) f off st l), some (.ints false .u8 xs)], []⟩ := by
  unfold devB
  rw [callP_run (fn := Tryd.f32) rfl rfl rfl (by simp [Tryd.ntmps32])]
  generalize hC : (envG G).ctx 32 (callN (envG G) F (n+1)) (callP (envG G) F (n+1)) = C
  have htt : C.tt = (envG G).tt := by rw [← hC]; rfl
  have hlin : C.lin = [] := by rw [← hC]; rfl
  have hreg : C.reg = reg32 := by rw [← hC]; rfl
  have hcall : C.call = callN (envG G) F (n+1) := by rw [← hC]; rfl
  have hcallP : C.callP = callP (envG G) F (n+1) := by rw [← hC]; rfl
  clear hC
  simp [htt, hlin, hreg, reg32, hcall, hcallP]
theorem t_Power (F n : Nat) :
    callP (envG G) F (n+2) 30 [.ptr 0 0] [some (devB a b (.mu 1 0 L L 1) f off st l), some (.ints false .u8 xs)] [] = some ⟨[], [], [some (devB a b (.mu 1 0 L L 1) f false st (if off then 0 else l)), some (.ints false .u8 xs)], []⟩ := by
  unfold devB
  cases off
  · skip
    rw [callP_run (fn := Tryd.f30) rfl rfl rfl (by simp [Tryd.ntmps30])]
    generalize hC : (envG G).ctx 30 (callN (envG G) F (n+1)) (callP (envG G) F (n+1)) = C
    have htt : C.tt = (envG G).tt := by rw [← hC]; rfl
    have hlin : C.lin = [] := by rw [← hC]; rfl
    have hreg : C.reg = reg30 := by rw [← hC]; rfl
    have hcall : C.call = callN (envG G) F (n+1) := by rw [← hC]; rfl
    have hcallP : C.callP = callP (envG G) F (n+1) := by rw [← hC]; rfl
    clear hC
    simp [htt, hlin, hreg, reg30, hcall, hcallP]
  · skip
    rw [callP_run (fn := Tryd.f30) rfl rfl rfl (by simp [Tryd.ntmps30])]
    generalize hC : (envG G).ctx 30 (callN (envG G) F (n+1)) (callP (envG G) F (n+1)) = C
    have htt : C.tt = (envG G).tt := by rw [← hC]; rfl
    have hlin : C.lin = [] := by rw [← hC]; rfl
    have hreg : C.reg = reg30 := by rw [← hC]; rfl
    have hcall : C.call = callN (envG G) F (n+1) := by rw [← hC]; rfl
    have hcallP : C.callP = callP (envG G) F (n+1) := by rw [← hC]; rfl
    clear hC
    simp [htt, hlin, hreg, reg30, hcall, hcallP]
theorem t_Cut (F n : Nat) (k : Int) (hk : k ≤ 9223372036854775807) : ∃ e l',
    callP (envG G) F (n+2) 29 [.ptr 0 0, .d (.int .i64 k)] [some (devB a b (.mu 1 0 L L 1) f off st l), some (.ints false .u8 xs)] [] = some ⟨[.d e], [], [some (devB a b (.mu 1 0 L L 1) f off st l'), some (.ints false .u8 xs)], []⟩ ∧ (l' = l ∨ 0 ≤ l' ∧ l' ≤ 9223372036854775807) ∧ (e = .nilifc ∨ ∃ t x, e = .ifc t x) := by
  unfold devB
  by_cases h0 : k < 0
  · refine ⟨.ifc 36 (.int .i64 1), l, ?_, .inl rfl, .inr ⟨_, _, rfl⟩⟩
    rw [callP_run (fn := Tryd.f29) rfl rfl rfl (by simp [Tryd.ntmps29])]
    generalize hC : (envG G).ctx 29 (callN (envG G) F (n+1)) (callP (envG G) F (n+1)) = C
    have htt : C.tt = (envG G).tt := by rw [← hC]; rfl
    have hlin : C.lin = [] := by rw [← hC]; rfl
    have hreg : C.reg = reg29 := by rw [← hC]; rfl
    have hcall : C.call = callN (envG G) F (n+1) := by rw [← hC]; rfl
    have hcallP : C.callP = callP (envG G) F (n+1) := by rw [← hC]; rfl
    clear hC
    simp [htt, hlin, hreg, reg29, hcall, hcallP, h0]
  · cases off
    · by_cases h1 : k = 9223372036854775807
      · refine ⟨.nilifc, k, ?_, .inr (by omega), .inl rfl⟩
        rw [callP_run (fn := Tryd.f29) rfl rfl rfl (by simp [Tryd.ntmps29])]
        generalize hC : (envG G).ctx 29 (callN (envG G) F (n+1)) (callP (envG G) F (n+1)) = C
        have htt : C.tt = (envG G).tt := by rw [← hC]; rfl
        have hlin : C.lin = [] := by rw [← hC]; rfl
        have hreg : C.reg = reg29 := by rw [← hC]; rfl
        have hcall : C.call = callN (envG G) F (n+1) := by rw [← hC]; rfl
        have hcallP : C.callP = callP (envG G) F (n+1) := by rw [← hC]; rfl
        clear hC
        simp [htt, hlin, hreg, reg29, hcall, hcallP, h0, h1]
      · refine ⟨.nilifc, k + 1, ?_, .inr (by omega), .inl rfl⟩
        have w : IntKind.i64.wrap (k + 1) = k + 1 := wrap_ok (by simp; omega) (by simp; omega)
        rw [callP_run (fn := Tryd.f29) rfl rfl rfl (by simp [Tryd.ntmps29])]
        generalize hC : (envG G).ctx 29 (callN (envG G) F (n+1)) (callP (envG G) F (n+1)) = C
        have htt : C.tt = (envG G).tt := by rw [← hC]; rfl
        have hlin : C.lin = [] := by rw [← hC]; rfl
        have hreg : C.reg = reg29 := by rw [← hC]; rfl
        have hcall : C.call = callN (envG G) F (n+1) := by rw [← hC]; rfl
        have hcallP : C.callP = callP (envG G) F (n+1) := by rw [← hC]; rfl
        clear hC
        simp [htt, hlin, hreg, reg29, hcall, hcallP, h0, h1, w]
    · refine ⟨.ifc 36 (.int .i64 15), l, ?_, .inl rfl, .inr ⟨_, _, rfl⟩⟩
      rw [callP_run (fn := Tryd.f29) rfl rfl rfl (by simp [Tryd.ntmps29])]
      generalize hC : (envG G).ctx 29 (callN (envG G) F (n+1)) (callP (envG G) F (n+1)) = C
      have htt : C.tt = (envG G).tt := by rw [← hC]; rfl
      have hlin : C.lin = [] := by rw [← hC]; rfl
      have hreg : C.reg = reg29 := by rw [← hC]; rfl
      have hcall : C.call = callN (envG G) F (n+1) := by rw [← hC]; rfl
      have hcallP : C.callP = callP (envG G) F (n+1) := by rw [← hC]; rfl
      clear hC
      simp [htt, hlin, hreg, reg29, hcall, hcallP, h0]
end Go.Proofs.YtjmcgdhekjkjfaaDoor
set_option linter.unusedSimpArgs false
set_option linter.unusedVariables false
namespace Go.Proofs.YtjmcgdhekjkjfaaDoor
open Go Go.VM
variable {G : GE}
set_option maxRecDepth 100000
set_option maxHeartbeats 4000000
variable (a b : D) (xs : List Int) (L : Nat) (f : Int) (off : Bool) (st l : Int)
theorem t_step0 (F n : Nat) :
    callP (envG G) F (n+1) 72 [.ptr 0 0] [some (devB a b (.mu 1 0 L L 1) f off st 0), some (.ints false .u8 xs)] [] = some ⟨[.d (.bool true)], [], [some (devB a b (.mu 1 0 L L 1) f off (IntKind.i64.wrap (st + 1)) 0), some (.ints false .u8 xs)], []⟩ := by
  unfold devB
  rw [callP_run (fn := Tryd.f72) rfl rfl rfl (by simp [Tryd.ntmps72])]
  generalize hC : (envG G).ctx 72 (callN (envG G) F (n)) (callP (envG G) F (n)) = C
  have htt : C.tt = (envG G).tt := by rw [← hC]; rfl
  have hlin : C.lin = [] := by rw [← hC]; rfl
  have hreg : C.reg = reg72 := by rw [← hC]; rfl
  have hcall : C.call = callN (envG G) F (n) := by rw [← hC]; rfl
  have hcallP : C.callP = callP (envG G) F (n) := by rw [← hC]; rfl
  clear hC
  simp [htt, hlin, hreg, reg72, hcall, hcallP]
theorem t_step2 (F n : Nat) (h0 : l ≠ 0) (h1 : l ≠ 1) :
    callP (envG G) F (n+1) 72 [.ptr 0 0] [some (devB a b (.mu 1 0 L L 1) f off st l), some (.ints false .u8 xs)] [] = some ⟨[.d (.bool true)], [], [some (devB a b (.mu 1 0 L L 1) f off (IntKind.i64.wrap (st + 1)) (IntKind.i64.wrap (l - 1))), some (.ints false .u8 xs)], []⟩ := by
  unfold devB
  rw [callP_run (fn := Tryd.f72) rfl rfl rfl (by simp [Tryd.ntmps72])]
  generalize hC : (envG G).ctx 72 (callN (envG G) F (n)) (callP (envG G) F (n)) = C
  have htt : C.tt = (envG G).tt := by rw [← hC]; rfl
  have hlin : C.lin = [] := by rw [← hC]; rfl
  have hreg : C.reg = reg72 := by rw [← hC]; rfl
  have hcall : C.call = callN (envG G) F (n) := by rw [← hC]; rfl
  have hcallP : C.callP = callP (envG G) F (n) := by rw [← hC]; rfl
  clear hC
  simp [htt, hlin, hreg, reg72, hcall, hcallP, h0, h1]
theorem t_step1 (F n : Nat) (hx : xs.length = L) :
    callP (envG G) F (n+1) 72 [.ptr 0 0] [some (devB a b (.mu 1 0 L L 1) f off st 1), some (.ints false .u8 xs)] [] = some ⟨[.d (.bool false)], [], [some (devB a b (.mu 1 0 L L 1) f true st 1), some (.ints false .u8 (List.replicate L 0))], []⟩ := by
  have e : xs.drop L = [] := by rw [← hx, List.drop_length]
  unfold devB
  rw [callP_run (fn := Tryd.f72) rfl rfl rfl (by simp [Tryd.ntmps72])]
  generalize hC : (envG G).ctx 72 (callN (envG G) F (n)) (callP (envG G) F (n)) = C
  have htt : C.tt = (envG G).tt := by rw [← hC]; rfl
  have hlin : C.lin = [] := by rw [← hC]; rfl
  have hreg : C.reg = reg72 := by rw [← hC]; rfl
  have hcall : C.call = callN (envG G) F (n) := by rw [← hC]; rfl
  have hcallP : C.callP = callP (envG G) F (n) := by rw [← hC]; rfl
  clear hC
  simp [htt, hlin, hreg, reg72, hcall, hcallP, hx, e]
structure StepR (off : Bool) (xs : List Int) (L : Nat) (st l : Int) (ok off' : Bool) (xs' : List Int) (st' l' : Int) : Prop where
  on : ok = true → off' = off ∧ xs' = xs
  out : ok = false → off' = true ∧ xs' = List.replicate L 0
  len : xs'.length = L
theorem t_step (F n : Nat) (hx : xs.length = L) : ∃ ok off' xs' st' l',
    callP (envG G) F (n+1) 72 [.ptr 0 0] [some (devB a b (.mu 1 0 L L 1) f off st l), some (.ints false .u8 xs)] [] = some ⟨[.d (.bool ok)], [], [some (devB a b (.mu 1 0 L L 1) f off' st' l'), some (.ints false .u8 xs')], []⟩ ∧ StepR off xs L st l ok off' xs' st' l' := by
  by_cases h0 : l = 0
  · subst h0
    exact ⟨_, _, _, _, _, t_step0 (G := G) a b xs L f off st F n, ⟨fun _ => ⟨rfl, rfl⟩, (fun h => by cases h), hx⟩⟩
  · by_cases h1 : l = 1
    · subst h1
      exact ⟨_, _, _, _, _, t_step1 (G := G) a b xs L f off st F n hx, ⟨(fun h => by cases h), fun _ => ⟨rfl, rfl⟩, by simp⟩⟩
    · exact ⟨_, _, _, _, _, t_step2 (G := G) a b xs L f off st l F n h0 h1, ⟨fun _ => ⟨rfl, rfl⟩, (fun h => by cases h), hx⟩⟩
theorem t_Burn (F n : Nat) (hx : xs.length = L) (k : Int) : ∃ e off' xs' st' l' f',
    callP (envG G) F (n+2) 28 [.ptr 0 0, .d (.int .i64 k)] [some (devB a b (.mu 1 0 L L 1) f off st l), some (.ints false .u8 xs)] [] = some ⟨[.d e], [], [some (devB a b (.mu 1 0 L L 1) f' off' st' l'), some (.ints false .u8 xs')], []⟩ ∧
      xs'.length = L ∧ ((off' = off ∧ xs' = xs) ∨ off' = true ∧ xs' = List.replicate L 0) ∧ (f' = f ∨ ∃ j : Nat, j < 64 ∧ f' = orI .u64 f (IntKind.u64.wrap (2 ^ (min j 64)))) := by
  cases off with
  | true =>
    refine ⟨.ifc 36 (.int .i64 15), true, xs, st, l, f, ?_, hx, .inl ⟨rfl, rfl⟩, .inl rfl⟩
    unfold devB
    rw [callP_run (fn := Tryd.f28) rfl rfl rfl (by simp [Tryd.ntmps28])]
    generalize hC : (envG G).ctx 28 (callN (envG G) F (n+1)) (callP (envG G) F (n+1)) = C
    have htt : C.tt = (envG G).tt := by rw [← hC]; rfl
    have hlin : C.lin = [] := by rw [← hC]; rfl
    have hreg : C.reg = reg28 := by rw [← hC]; rfl
    have hcall : C.call = callN (envG G) F (n+1) := by rw [← hC]; rfl
    have hcallP : C.callP = callP (envG G) F (n+1) := by rw [← hC]; rfl
    have hlv_200007 : C.live 200007 = [] := by rw [← hC]; rfl
    have hlv_250007 : C.live 250007 = [] := by rw [← hC]; rfl
    clear hC
    simp [htt, hlin, hreg, reg28, hcall, hcallP, hlv_200007, hlv_250007]
  | false =>
    by_cases h0 : k < 0
    · refine ⟨.ifc 36 (.int .i64 1), false, xs, st, l, f, ?_, hx, .inl ⟨rfl, rfl⟩, .inl rfl⟩
      unfold devB
      rw [callP_run (fn := Tryd.f28) rfl rfl rfl (by simp [Tryd.ntmps28])]
      generalize hC : (envG G).ctx 28 (callN (envG G) F (n+1)) (callP (envG G) F (n+1)) = C
      have htt : C.tt = (envG G).tt := by rw [← hC]; rfl
      have hlin : C.lin = [] := by rw [← hC]; rfl
      have hreg : C.reg = reg28 := by rw [← hC]; rfl
      have hcall : C.call = callN (envG G) F (n+1) := by rw [← hC]; rfl
      have hcallP : C.callP = callP (envG G) F (n+1) := by rw [← hC]; rfl
      have hlv_200007 : C.live 200007 = [] := by rw [← hC]; rfl
      have hlv_250007 : C.live 250007 = [] := by rw [← hC]; rfl
      clear hC
      simp [htt, hlin, hreg, reg28, hcall, hcallP, hlv_200007, hlv_250007, h0]
    · by_cases h1 : 64 ≤ k
      · refine ⟨.ifc 36 (.int .i64 1), false, xs, st, l, f, ?_, hx, .inl ⟨rfl, rfl⟩, .inl rfl⟩
        unfold devB
        rw [callP_run (fn := Tryd.f28) rfl rfl rfl (by simp [Tryd.ntmps28])]
        generalize hC : (envG G).ctx 28 (callN (envG G) F (n+1)) (callP (envG G) F (n+1)) = C
        have htt : C.tt = (envG G).tt := by rw [← hC]; rfl
        have hlin : C.lin = [] := by rw [← hC]; rfl
        have hreg : C.reg = reg28 := by rw [← hC]; rfl
        have hcall : C.call = callN (envG G) F (n+1) := by rw [← hC]; rfl
        have hcallP : C.callP = callP (envG G) F (n+1) := by rw [← hC]; rfl
        have hlv_200007 : C.live 200007 = [] := by rw [← hC]; rfl
        have hlv_250007 : C.live 250007 = [] := by rw [← hC]; rfl
        clear hC
        simp [htt, hlin, hreg, reg28, hcall, hcallP, hlv_200007, hlv_250007, h0, h1]
      · obtain ⟨ok, off', xs', st', l', ks, hs⟩ := t_step (G := G) a b xs L f false st l F n hx
        have h2 : 0 ≤ k := by omega
        cases ok with
        | false =>
          obtain ⟨rfl, rfl⟩ := hs.out rfl
          refine ⟨.ifc 36 (.int .i64 15), true, List.replicate L 0, st', l', f, ?_, by simp, .inr ⟨rfl, rfl⟩, .inl rfl⟩
          unfold devB at *
          rw [callP_run (fn := Tryd.f28) rfl rfl rfl (by simp [Tryd.ntmps28])]
          generalize hC : (envG G).ctx 28 (callN (envG G) F (n+1)) (callP (envG G) F (n+1)) = C
          have htt : C.tt = (envG G).tt := by rw [← hC]; rfl
          have hlin : C.lin = [] := by rw [← hC]; rfl
          have hreg : C.reg = reg28 := by rw [← hC]; rfl
          have hcall : C.call = callN (envG G) F (n+1) := by rw [← hC]; rfl
          have hcallP : C.callP = callP (envG G) F (n+1) := by rw [← hC]; rfl
          have hlv_200007 : C.live 200007 = [] := by rw [← hC]; rfl
          have hlv_250007 : C.live 250007 = [] := by rw [← hC]; rfl
          clear hC
          simp [htt, hlin, hreg, reg28, hcall, hcallP, hlv_200007, hlv_250007, ks, h0, h1]
        | true =>
          obtain ⟨rfl, rfl⟩ := hs.on rfl
          refine ⟨.nilifc, false, _, st', l', _, ?_, hx, .inl ⟨rfl, rfl⟩, .inr ⟨k.toNat, by omega, rfl⟩⟩
          unfold devB at *
          rw [callP_run (fn := Tryd.f28) rfl rfl rfl (by simp [Tryd.ntmps28])]
          generalize hC : (envG G).ctx 28 (callN (envG G) F (n+1)) (callP (envG G) F (n+1)) = C
          have htt : C.tt = (envG G).tt := by rw [← hC]; rfl
          have hlin : C.lin = [] := by rw [← hC]; rfl
          have hreg : C.reg = reg28 := by rw [← hC]; rfl
          have hcall : C.call = callN (envG G) F (n+1) := by rw [← hC]; rfl
          have hcallP : C.callP = callP (envG G) F (n+1) := by rw [← hC]; rfl
          have hlv_200007 : C.live 200007 = [] := by rw [← hC]; rfl
          have hlv_250007 : C.live 250007 = [] := by rw [← hC]; rfl
          clear hC
          simp [htt, hlin, hreg, reg28, hcall, hcallP, hlv_200007, hlv_250007, ks, h0, h1, h2]
end Go.Proofs.YtjmcgdhekjkjfaaDoor
set_option linter.unusedSimpArgs false
set_option linter.unusedVariables false
namespace Go.Proofs.YtjmcgdhekjkjfaaDoor
open Go Go.VM
variable {G : GE}
set_option maxRecDepth 100000
set_option maxHeartbeats 4000000
theorem sl_mu {C : Ctx} (htt : C.tt = (envG G).tt) (st : St) (b o n c p : Nat) (h : p ≤ n) (h2 : n ≤ c) : evSlice C st 22 (.mu b o n c 1) (p : Int) none none = some (.mu b (o + p) (n - p) (c - p) 1, false) := by
  have e : evSlice C st 22 (.mu b o n c 1) (p : Int) none none = (bif Nat.beq 1 1 && decide (0 ≤ (p : Int)) && decide ((p : Int) ≤ (n : Int)) && decide ((n : Int) ≤ (c : Int)) then some (.mu b (o + (p : Int).toNat * 1) ((n : Int).toNat - (p : Int).toNat) (c - (p : Int).toNat) 1, false) else none) := by
    cases C
    cases htt
    rfl
  rw [e, decide_eq_true (by omega : 0 ≤ (p : Int)), decide_eq_true (by omega : (p : Int) ≤ n), decide_eq_true (by omega : (n : Int) ≤ c)]
  simp
theorem loop_write1 {m : Nat} {C : Ctx} {F : Nat} (hC : (envG G).ctx 27 (callN (envG G) F (m+1)) (callP (envG G) F (m+1)) = C) {c : Code} (hc : loopAt 5 Tryd.f27 = some c) (a b : D) (L : Nat) (f st l st' l' : Int) (xs : List Int) (hx : xs.length = L) (hL : L ≤ 65536) (p : Nat) (nl : Bool) (y : List Int) (hy : y ≠ []) (hp : p + y.length ≤ L)
    (ks : callP (envG G) F (m+1) 72 [.ptr 0 0] [some (devB a b (.mu 1 0 L L 1) f false st l), some (.ints false .u8 xs)] [] = some ⟨[.d (.bool true)], [], [some (devB a b (.mu 1 0 L L 1) f false st' l'), some (.ints false .u8 xs)], []⟩)
    (k : Nat) (s : St) (hst : s.trim 2 [0, 1, 2] = ⟨[(0, .ptr 0 0), (1, .d (.int .i64 p)), (2, .d (.nums .u8 nl y))], [some (devB a b (.mu 1 0 L L 1) f false st l), some (.ints false .u8 xs)], []⟩) :
    ∃ (q : Nat) (xs' : List Int), 1 ≤ q ∧ q ≤ y.length ∧ xs'.length = L ∧ iter (ev C F c) 2 [0, 1, 2] [6] (k+1) s = iter (ev C F c) 2 [0, 1, 2] [6] k ⟨[(0, .ptr 0 0), (1, .d (.int .i64 ((p : Int) + (q : Int)))), (2, .d (.nums .u8 nl (y.drop q)))], [some (devB a b (.mu 1 0 L L 1) f false st' l'), some (.ints false .u8 xs')], []⟩ := by
  have htt : C.tt = (envG G).tt := by rw [← hC]; rfl
  have hlin : C.lin = [] := by rw [← hC]; rfl
  have hreg : C.reg = reg27 := by rw [← hC]; rfl
  have hcall : C.call = callN (envG G) F (m+1) := by rw [← hC]; rfl
  have hcallP : C.callP = callP (envG G) F (m+1) := by rw [← hC]; rfl
  have hlv_5 : C.live 5 = [0, 1, 2] := by rw [← hC]; rfl
  have hlv_100005 : C.live 100005 = [6] := by rw [← hC]; rfl
  have hlv_200009 : C.live 200009 = [] := by rw [← hC]; rfl
  have hlv_250009 : C.live 250009 = [] := by rw [← hC]; rfl
  have hlv_200010 : C.live 200010 = [] := by rw [← hC]; rfl
  have hlv_250010 : C.live 250010 = [] := by rw [← hC]; rfl
  have hev : ∀ st, ev C F c st = ev C F ((loopAt 5 Tryd.f27).getD .skip) st := fun st => by rw [hc]; rfl
  have e0 : 0 < y.length := by cases y with | nil => exact absurd rfl hy | cons x t => simp
  have e1 : ¬ (y.length : Int) ≤ 0 := by omega
  have e2 : (0 : Int) < (y.length : Int) := by omega
  obtain ⟨q, hq, q1, q2, q3⟩ : ∃ q : Nat, minI (y.length : Int) 16 = (q : Int) ∧ 1 ≤ q ∧ q ≤ y.length ∧ q ≤ 16 := by
    by_cases h : y.length ≤ 16
    · exact ⟨y.length, by unfold minI; rw [decide_eq_false (by omega)]; rfl, by omega, by omega, by omega⟩
    · exact ⟨16, by unfold minI; rw [decide_eq_true (by omega)]; rfl, by omega, by omega, by omega⟩
  have q4 : (q : Int) ≤ (y.length : Int) := by omega
  have q5 : (p : Int) + q ≤ 9223372036854775807 := by omega
  have q6 : (-9223372036854775808 : Int) ≤ (p : Int) + q := by omega
  have q7 : min (L - p) q = q := by omega
  have q8 : p + q ≤ L := by omega
  refine ⟨q, xs.take p ++ (y.take q ++ xs.drop (p + q)), q1, q2, by simp only [List.length_append, List.length_take, List.length_drop]; omega, ?_⟩
  rw [iter_eq, hst, hev]
  unfold devB at *
  have hw : (C.nolin (wOf (⟨[], [], []⟩ : St) []) []).tt = (envG G).tt := htt
  have hsl : ∀ (q : List Nat) (s : St), evSlice (C.nolin q []) s 22 (.mu 1 0 L L 1) (p : Int) none none = some (.mu 1 (0 + p) (L - p) (L - p) 1, false) := fun q s => sl_mu (G := G) (C := C.nolin q []) htt s 1 0 L L p (by omega) (Nat.le_refl _)
  simp [loopAt, findLoop, Tryd.f27, htt, hlin, hreg, reg27, hcall, hcallP, hlv_5, hlv_100005, hlv_200009, hlv_250009, hlv_200010, hlv_250010, ks, e0, e1, e2, hx, hsl, hq, q2, q4, q5, q6, q7, q8, List.take_take]
theorem loop_write0 {m : Nat} {C : Ctx} {F : Nat} (hC : (envG G).ctx 27 (callN (envG G) F (m+1)) (callP (envG G) F (m+1)) = C) {c : Code} (hc : loopAt 5 Tryd.f27 = some c) (a b : D) (L : Nat) (f st l : Int) (xs : List Int) (p : Int) (nl : Bool)
    (k : Nat) (s : St) (hst : s.trim 2 [0, 1, 2] = ⟨[(0, .ptr 0 0), (1, .d (.int .i64 p)), (2, .d (.nums .u8 nl []))], [some (devB a b (.mu 1 0 L L 1) f false st l), some (.ints false .u8 xs)], []⟩) :
    iter (ev C F c) 2 [0, 1, 2] [6] (k+1) s = some (.exit 1, ⟨[], [some (devB a b (.mu 1 0 L L 1) f false st l), some (.ints false .u8 xs)], []⟩) := by
  have htt : C.tt = (envG G).tt := by rw [← hC]; rfl
  have hlin : C.lin = [] := by rw [← hC]; rfl
  have hreg : C.reg = reg27 := by rw [← hC]; rfl
  have hcall : C.call = callN (envG G) F (m+1) := by rw [← hC]; rfl
  have hcallP : C.callP = callP (envG G) F (m+1) := by rw [← hC]; rfl
  have hlv_5 : C.live 5 = [0, 1, 2] := by rw [← hC]; rfl
  have hlv_100005 : C.live 100005 = [6] := by rw [← hC]; rfl
  have hlv_200009 : C.live 200009 = [] := by rw [← hC]; rfl
  have hlv_250009 : C.live 250009 = [] := by rw [← hC]; rfl
  have hlv_200010 : C.live 200010 = [] := by rw [← hC]; rfl
  have hlv_250010 : C.live 250010 = [] := by rw [← hC]; rfl
  have hev : ∀ st, ev C F c st = ev C F ((loopAt 5 Tryd.f27).getD .skip) st := fun st => by rw [hc]; rfl
  rw [iter_eq, hst, hev]
  unfold devB
  simp [loopAt, findLoop, Tryd.f27, htt, hlin, hreg, reg27, hcall, hcallP, hlv_5, hlv_100005, hlv_200009, hlv_250009, hlv_200010, hlv_250010]
theorem loop_writeC {m : Nat} {C : Ctx} {F : Nat} (hC : (envG G).ctx 27 (callN (envG G) F (m+1)) (callP (envG G) F (m+1)) = C) {c : Code} (hc : loopAt 5 Tryd.f27 = some c) (a b : D) (L : Nat) (f st l st' l' : Int) (xs xs' : List Int) (off' : Bool) (p : Int) (nl : Bool) (y : List Int) (hy : y ≠ [])
    (ks : callP (envG G) F (m+1) 72 [.ptr 0 0] [some (devB a b (.mu 1 0 L L 1) f false st l), some (.ints false .u8 xs)] [] = some ⟨[.d (.bool false)], [], [some (devB a b (.mu 1 0 L L 1) f off' st' l'), some (.ints false .u8 xs')], []⟩)
    (k : Nat) (s : St) (hst : s.trim 2 [0, 1, 2] = ⟨[(0, .ptr 0 0), (1, .d (.int .i64 p)), (2, .d (.nums .u8 nl y))], [some (devB a b (.mu 1 0 L L 1) f false st l), some (.ints false .u8 xs)], []⟩) :
    iter (ev C F c) 2 [0, 1, 2] [6] (k+1) s = some (.ret, ⟨[(6, .d (.ifc 36 (.int .i64 15)))], [some (devB a b (.mu 1 0 L L 1) f off' st' l'), some (.ints false .u8 xs')], []⟩) := by
  have htt : C.tt = (envG G).tt := by rw [← hC]; rfl
  have hlin : C.lin = [] := by rw [← hC]; rfl
  have hreg : C.reg = reg27 := by rw [← hC]; rfl
  have hcall : C.call = callN (envG G) F (m+1) := by rw [← hC]; rfl
  have hcallP : C.callP = callP (envG G) F (m+1) := by rw [← hC]; rfl
  have hlv_5 : C.live 5 = [0, 1, 2] := by rw [← hC]; rfl
  have hlv_100005 : C.live 100005 = [6] := by rw [← hC]; rfl
  have hlv_200009 : C.live 200009 = [] := by rw [← hC]; rfl
  have hlv_250009 : C.live 250009 = [] := by rw [← hC]; rfl
  have hlv_200010 : C.live 200010 = [] := by rw [← hC]; rfl
  have hlv_250010 : C.live 250010 = [] := by rw [← hC]; rfl
  have hev : ∀ st, ev C F c st = ev C F ((loopAt 5 Tryd.f27).getD .skip) st := fun st => by rw [hc]; rfl
  have e0 : 0 < y.length := by cases y with | nil => exact absurd rfl hy | cons x t => simp
  rw [iter_eq, hst, hev]
  unfold devB at *
  simp [loopAt, findLoop, Tryd.f27, htt, hlin, hreg, reg27, hcall, hcallP, hlv_5, hlv_100005, hlv_200009, hlv_250009, hlv_200010, hlv_250010, ks, e0]
theorem loop_write {m : Nat} {C : Ctx} {F : Nat} (hC : (envG G).ctx 27 (callN (envG G) F (m+1)) (callP (envG G) F (m+1)) = C) {c : Code} (hc : loopAt 5 Tryd.f27 = some c) (a b : D) (L : Nat) (hL : L ≤ 65536) (f : Int) (nl : Bool) : ∀ (d : Nat) (y : List Int) (p : Nat) (xs : List Int) (st l : Int) (k : Nat) (s : St), y.length ≤ d → p + y.length ≤ L → xs.length = L → d < k →
    s.trim 2 [0, 1, 2] = ⟨[(0, .ptr 0 0), (1, .d (.int .i64 p)), (2, .d (.nums .u8 nl y))], [some (devB a b (.mu 1 0 L L 1) f false st l), some (.ints false .u8 xs)], []⟩ →
    ∃ off' xs' st' l', xs'.length = L ∧ ((off' = false ∧ iter (ev C F c) 2 [0, 1, 2] [6] k s = some (.exit 1, ⟨[], [some (devB a b (.mu 1 0 L L 1) f off' st' l'), some (.ints false .u8 xs')], []⟩)) ∨
      (off' = true ∧ xs' = List.replicate L 0 ∧ iter (ev C F c) 2 [0, 1, 2] [6] k s = some (.ret, ⟨[(6, .d (.ifc 36 (.int .i64 15)))], [some (devB a b (.mu 1 0 L L 1) f off' st' l'), some (.ints false .u8 xs')], []⟩))) := by
  intro d
  induction d with
  | zero =>
    intro y p xs st l k s hd hp hx hk hst
    obtain ⟨k, rfl⟩ : ∃ j, k = j + 1 := ⟨k - 1, by omega⟩
    have hy : y = [] := List.eq_nil_of_length_eq_zero (by omega)
    subst hy
    exact ⟨false, xs, st, l, hx, .inl ⟨rfl, loop_write0 (G := G) hC hc a b L f st l xs p nl k s hst⟩⟩
  | succ d ih =>
    intro y p xs st l k s hd hp hx hk hst
    obtain ⟨k, rfl⟩ : ∃ j, k = j + 1 := ⟨k - 1, by omega⟩
    by_cases hy : y = []
    · subst hy
      exact ⟨false, xs, st, l, hx, .inl ⟨rfl, loop_write0 (G := G) hC hc a b L f st l xs p nl k s hst⟩⟩
    · obtain ⟨ok, off', xs', st', l', ks, hs⟩ := t_step (G := G) a b xs L f false st l F m hx
      cases ok with
      | false =>
        obtain ⟨rfl, rfl⟩ := hs.out rfl
        exact ⟨true, _, st', l', by simp, .inr ⟨rfl, rfl, loop_writeC (G := G) hC hc a b L f st l st' l' xs _ true p nl y hy ks k s hst⟩⟩
      | true =>
        obtain ⟨rfl, rfl⟩ := hs.on rfl
        obtain ⟨q, xs2, q1, q2, q3, e⟩ := loop_write1 (G := G) hC hc a b L f st l st' l' xs' hx hL p nl y hy hp ks k s hst
        rw [e]
        exact ih (y.drop q) (p + q) xs2 st' l' k _ (by rw [List.length_drop]; omega) (by rw [List.length_drop]; omega) q3 (by omega) (by simp [devB])
end Go.Proofs.YtjmcgdhekjkjfaaDoor
set_option linter.unusedSimpArgs false
set_option linter.unusedVariables false
namespace Go.Proofs.YtjmcgdhekjkjfaaDoor
open Go Go.VM
variable {G : GE}
set_option maxRecDepth 100000
set_option maxHeartbeats 4000000
theorem t_dWrite (a b : D) (L : Nat) (hL : L ≤ 65536) (f st l : Int) (off : Bool) (xs : List Int) (hx : xs.length = L) (F n : Nat) (k : Int) (nl : Bool) (y : List Int) (hF : y.length < F) : ∃ e off' xs' st' l',
    callP (envG G) F (n+2) 27 [.ptr 0 0, .d (.int .i64 k), .d (.nums .u8 nl y)] [some (devB a b (.mu 1 0 L L 1) f off st l), some (.ints false .u8 xs)] [] = some ⟨[.d e], [], [some (devB a b (.mu 1 0 L L 1) f off' st' l'), some (.ints false .u8 xs')], []⟩ ∧
      xs'.length = L ∧ (off' = off ∨ off' = true ∧ xs' = List.replicate L 0) := by
  cases off with
  | true =>
    refine ⟨.ifc 36 (.int .i64 15), true, xs, st, l, ?_, hx, .inl rfl⟩
    unfold devB
    rw [callP_run (fn := Tryd.f27) rfl rfl rfl (by simp [Tryd.ntmps27])]
    generalize hC : (envG G).ctx 27 (callN (envG G) F (n+1)) (callP (envG G) F (n+1)) = C
    have htt : C.tt = (envG G).tt := by rw [← hC]; rfl
    have hlin : C.lin = [] := by rw [← hC]; rfl
    have hreg : C.reg = reg27 := by rw [← hC]; rfl
    have hcall : C.call = callN (envG G) F (n+1) := by rw [← hC]; rfl
    have hcallP : C.callP = callP (envG G) F (n+1) := by rw [← hC]; rfl
    have hlv_5 : C.live 5 = [0, 1, 2] := by rw [← hC]; rfl
    have hlv_100005 : C.live 100005 = [6] := by rw [← hC]; rfl
    have hlv_200009 : C.live 200009 = [] := by rw [← hC]; rfl
    have hlv_250009 : C.live 250009 = [] := by rw [← hC]; rfl
    have hlv_200010 : C.live 200010 = [] := by rw [← hC]; rfl
    have hlv_250010 : C.live 250010 = [] := by rw [← hC]; rfl
    clear hC
    simp [htt, hlin, hreg, reg27, hcall, hcallP, hlv_5, hlv_100005, hlv_200009, hlv_250009, hlv_200010, hlv_250010]
  | false =>
    by_cases h0 : k < 0
    · refine ⟨.ifc 36 (.int .i64 20), false, xs, st, l, ?_, hx, .inl rfl⟩
      unfold devB
      rw [callP_run (fn := Tryd.f27) rfl rfl rfl (by simp [Tryd.ntmps27])]
      generalize hC : (envG G).ctx 27 (callN (envG G) F (n+1)) (callP (envG G) F (n+1)) = C
      have htt : C.tt = (envG G).tt := by rw [← hC]; rfl
      have hlin : C.lin = [] := by rw [← hC]; rfl
      have hreg : C.reg = reg27 := by rw [← hC]; rfl
      have hcall : C.call = callN (envG G) F (n+1) := by rw [← hC]; rfl
      have hcallP : C.callP = callP (envG G) F (n+1) := by rw [← hC]; rfl
      have hlv_5 : C.live 5 = [0, 1, 2] := by rw [← hC]; rfl
      have hlv_100005 : C.live 100005 = [6] := by rw [← hC]; rfl
      have hlv_200009 : C.live 200009 = [] := by rw [← hC]; rfl
      have hlv_250009 : C.live 250009 = [] := by rw [← hC]; rfl
      have hlv_200010 : C.live 200010 = [] := by rw [← hC]; rfl
      have hlv_250010 : C.live 250010 = [] := by rw [← hC]; rfl
      clear hC
      simp [htt, hlin, hreg, reg27, hcall, hcallP, hlv_5, hlv_100005, hlv_200009, hlv_250009, hlv_200010, hlv_250010, h0]
    · by_cases h1 : (L : Int) < (y.length : Int)
      · refine ⟨.ifc 36 (.int .i64 20), false, xs, st, l, ?_, hx, .inl rfl⟩
        unfold devB
        rw [callP_run (fn := Tryd.f27) rfl rfl rfl (by simp [Tryd.ntmps27])]
        generalize hC : (envG G).ctx 27 (callN (envG G) F (n+1)) (callP (envG G) F (n+1)) = C
        have htt : C.tt = (envG G).tt := by rw [← hC]; rfl
        have hlin : C.lin = [] := by rw [← hC]; rfl
        have hreg : C.reg = reg27 := by rw [← hC]; rfl
        have hcall : C.call = callN (envG G) F (n+1) := by rw [← hC]; rfl
        have hcallP : C.callP = callP (envG G) F (n+1) := by rw [← hC]; rfl
        have hlv_5 : C.live 5 = [0, 1, 2] := by rw [← hC]; rfl
        have hlv_100005 : C.live 100005 = [6] := by rw [← hC]; rfl
        have hlv_200009 : C.live 200009 = [] := by rw [← hC]; rfl
        have hlv_250009 : C.live 250009 = [] := by rw [← hC]; rfl
        have hlv_200010 : C.live 200010 = [] := by rw [← hC]; rfl
        have hlv_250010 : C.live 250010 = [] := by rw [← hC]; rfl
        clear hC
        simp [htt, hlin, hreg, reg27, hcall, hcallP, hlv_5, hlv_100005, hlv_200009, hlv_250009, hlv_200010, hlv_250010, h0, h1]
      · have w : IntKind.i64.wrap ((L : Int) - (y.length : Int)) = (L : Int) - (y.length : Int) := wrap_ok (by simp; omega) (by simp; omega)
        have w1 : (L : Int) - (y.length : Int) ≤ 9223372036854775807 := by omega
        have w2 : (-9223372036854775808 : Int) ≤ (L : Int) - (y.length : Int) := by omega
        by_cases h2 : (L : Int) - (y.length : Int) < k
        · refine ⟨.ifc 36 (.int .i64 20), false, xs, st, l, ?_, hx, .inl rfl⟩
          unfold devB
          rw [callP_run (fn := Tryd.f27) rfl rfl rfl (by simp [Tryd.ntmps27])]
          generalize hC : (envG G).ctx 27 (callN (envG G) F (n+1)) (callP (envG G) F (n+1)) = C
          have htt : C.tt = (envG G).tt := by rw [← hC]; rfl
          have hlin : C.lin = [] := by rw [← hC]; rfl
          have hreg : C.reg = reg27 := by rw [← hC]; rfl
          have hcall : C.call = callN (envG G) F (n+1) := by rw [← hC]; rfl
          have hcallP : C.callP = callP (envG G) F (n+1) := by rw [← hC]; rfl
          have hlv_5 : C.live 5 = [0, 1, 2] := by rw [← hC]; rfl
          have hlv_100005 : C.live 100005 = [6] := by rw [← hC]; rfl
          have hlv_200009 : C.live 200009 = [] := by rw [← hC]; rfl
          have hlv_250009 : C.live 250009 = [] := by rw [← hC]; rfl
          have hlv_200010 : C.live 200010 = [] := by rw [← hC]; rfl
          have hlv_250010 : C.live 250010 = [] := by rw [← hC]; rfl
          clear hC
          simp [htt, hlin, hreg, reg27, hcall, hcallP, hlv_5, hlv_100005, hlv_200009, hlv_250009, hlv_200010, hlv_250010, h0, h1, w, w1, w2, h2]
        · obtain ⟨p, rfl⟩ : ∃ p : Nat, k = p := ⟨k.toNat, by omega⟩
          suffices hs : ∃ off' xs' st' l', xs'.length = L ∧ (off' = false ∨ off' = true ∧ xs' = List.replicate L 0) ∧ ∃ e, callP (envG G) F (n+2) 27 [.ptr 0 0, .d (.int .i64 (p : Int)), .d (.nums .u8 nl y)] [some (devB a b (.mu 1 0 L L 1) f false st l), some (.ints false .u8 xs)] [] = some ⟨[.d e], [], [some (devB a b (.mu 1 0 L L 1) f off' st' l'), some (.ints false .u8 xs')], []⟩ by
            obtain ⟨off', xs', st', l', q1, q2, e, q3⟩ := hs
            exact ⟨e, off', xs', st', l', q3, q1, q2⟩
          rw [callP_run (fn := Tryd.f27) rfl rfl rfl (by simp [Tryd.ntmps27])]
          generalize hC : (envG G).ctx 27 (callN (envG G) F (n+1)) (callP (envG G) F (n+1)) = C
          have htt : C.tt = (envG G).tt := by rw [← hC]; rfl
          have hlin : C.lin = [] := by rw [← hC]; rfl
          have hreg : C.reg = reg27 := by rw [← hC]; rfl
          have hcall : C.call = callN (envG G) F (n+1) := by rw [← hC]; rfl
          have hcallP : C.callP = callP (envG G) F (n+1) := by rw [← hC]; rfl
          have hlv_5 : C.live 5 = [0, 1, 2] := by rw [← hC]; rfl
          have hlv_100005 : C.live 100005 = [6] := by rw [← hC]; rfl
          have hlv_200009 : C.live 200009 = [] := by rw [← hC]; rfl
          have hlv_250009 : C.live 250009 = [] := by rw [← hC]; rfl
          have hlv_200010 : C.live 200010 = [] := by rw [← hC]; rfl
          have hlv_250010 : C.live 250010 = [] := by rw [← hC]; rfl
          have hl := fun s h => loop_write (G := G) hC rfl a b L hL f nl y.length y p xs st l F s (Nat.le_refl _) (by omega) hx hF h
          clear hC
          have hit : ∀ (B : St → Option (Ex × St)) (s s2 : St), s.trim 2 [0, 1, 2] = s2.trim 2 [0, 1, 2] → iter B 2 [0, 1, 2] [6] F s = iter B 2 [0, 1, 2] [6] F s2 := fun B s s2 h => by
            obtain ⟨F', hF'⟩ : ∃ j, F = j + 1 := ⟨F - 1, by omega⟩
            rw [hF', iter_eq, iter_eq, h]
          have hS : (⟨[(0, .ptr 0 0), (1, .d (.int .i64 p)), (2, .d (.nums .u8 nl y))], [some (devB a b (.mu 1 0 L L 1) f false st l), some (.ints false .u8 xs)], []⟩ : St).trim 2 [0, 1, 2] = ⟨[(0, .ptr 0 0), (1, .d (.int .i64 p)), (2, .d (.nums .u8 nl y))], [some (devB a b (.mu 1 0 L L 1) f false st l), some (.ints false .u8 xs)], []⟩ := by simp [devB]
          obtain ⟨off', xs', st', l', q1, q2⟩ := hl _ hS
          rcases q2 with ⟨rfl, e⟩ | ⟨rfl, hz, e⟩
          · refine ⟨false, xs', st', l', q1, .inl rfl, .nilifc, ?_⟩
            have hL2 := fun s h => (hit _ s _ (Eq.trans h hS.symm)).trans e
            clear hl hit hS e
            unfold devB at *
            simp [htt, hlin, hreg, reg27, hcall, hcallP, hlv_5, hlv_100005, hlv_200009, hlv_250009, hlv_200010, hlv_250010, h0, h1, w, w1, w2, h2, ev_loop]
            rw [hL2 _ (by simp)]
            simp [htt, hlin, hreg, reg27, hcall, hcallP, hlv_5, hlv_100005, hlv_200009, hlv_250009, hlv_200010, hlv_250010]
          · refine ⟨true, xs', st', l', q1, .inr ⟨rfl, hz⟩, .ifc 36 (.int .i64 15), ?_⟩
            have hL2 := fun s h => (hit _ s _ (Eq.trans h hS.symm)).trans e
            clear hl hit hS e
            unfold devB at *
            simp [htt, hlin, hreg, reg27, hcall, hcallP, hlv_5, hlv_100005, hlv_200009, hlv_250009, hlv_200010, hlv_250010, h0, h1, w, w1, w2, h2, ev_loop]
            rw [hL2 _ (by simp)]
            simp [htt, hlin, hreg, reg27, hcall, hcallP, hlv_5, hlv_100005, hlv_200009, hlv_250009, hlv_200010, hlv_250010]
end Go.Proofs.YtjmcgdhekjkjfaaDoor
